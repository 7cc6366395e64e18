/- No condition but those of each theorem. -/
import Derived.Test.YthbfjomffkpjdaaGreatDoorProg
import Derived.WalkKit
import Derived.Deep.LoopGhost
import Derived.KernelRfl
import Derived.OrdersHeld
import Derived.OrdersIn
import Derived.LoopNIn
import Derived.Sort.LoopGhostIn
import Derived.Laws.AppendOwn
import Derived.RangeFuncLeaves
import Derived.RangeFuncRecord
import Derived.MapKept
import Derived.Maps.RangeRun
import Derived.ChangeKeysEq
import Derived.HandedShaped
import Derived.ChangeStays
import Derived.ChangeSame
import Derived.OpenShut
import Derived.WideShapes
import Derived.JoinedOf
import Derived.ReadAgain
import Derived.ChangeAt
import Derived.RowKit
import Derived.Lib.Overlaps
import Derived.Shelf.Sort.Plain
import Derived.Shelf.Slices.In.SortNone
import Derived.WalkSmall
import Derived.Recover
import Derived.Lib.Builder
import Derived.Lib.UnsafeStr
import Derived.Shelf.Strconv.Itoa3
import Derived.Room.Shelf.Join48
namespace Go
section
abbrev j0:=@Option.bind_some
abbrev jA:=@decide_eq_true_eq
abbrev jB:=@Bool.false_eq_true
abbrev jC:=@List.length_append
abbrev jD:=@List.length_cons
abbrev jE:=@List.append_assoc
abbrev jF:=@List.length_nil
abbrev jG:=@Option.some.inj
abbrev jH:=@List.mem_cons_self
abbrev jI:=@if_false
abbrev jJ:=@if_true
abbrev jK:=@List.mem_cons_of_mem
abbrev jL:=@Option.some.injEq
abbrev jM:=@Bool.and_eq_true
abbrev jN:=@List.getElem_mem
abbrev jO:=@List.cons_append
abbrev jP:=@Option.bind_eq_some_iff
abbrev jQ:=@List.nil_append
abbrev jR:=@List.mem_cons
abbrev jS:=@Int.toNat_natCast
abbrev jT:=@Nat.le_refl
abbrev jU:=@List.length_singleton
abbrev jV:=@List.append_nil
abbrev jW:=@List.drop_eq_nil_of_le
abbrev jX:=@decide_eq_false
abbrev jY:=@List.eq_nil_of_length_eq_zero
abbrev jZ:=@List.drop_zero
abbrev kA:=@List.getD_eq_getElem?_getD
abbrev kC:=@decide_eq_true
abbrev kD:=@List.mem_append_left
abbrev kE:=@List.all_eq_true
abbrev kF:=@List.flatMap_cons
abbrev kG:=@List.map_cons
abbrev kH:=@List.drop_eq_getElem_cons
abbrev kI:=@List.mem_singleton
abbrev kJ:=@Bool.false_ne_true
abbrev kK:=@Bool.eq_iff_iff
abbrev kL:=@List.length_take
abbrev kM:=@List.mem_append_right
abbrev kN:=@beq_iff_eq
abbrev kO:=@Nat.zero_add
abbrev kP:=@Nat.not_lt_zero
abbrev kQ:=@Bool.not_false
abbrev kS:=@Nat.add_mul
abbrev kT:=@Option.map_eq_some_iff
abbrev kU:=@List.take_append_of_le_length
abbrev kV:=@List.cons.injEq
abbrev kW:=@List.length_drop
abbrev kX:=@Bool.false_or
abbrev kY:=@Nat.mul_le_mul_right
abbrev kZ:=@Bool.or_eq_false_iff
abbrev gA:=@Nat.le_of_ble_eq_true
abbrev gB:=@List.length_eq_zero_iff
abbrev gC:=@Nat.zero_le
abbrev gD:=@Bool.not_true
abbrev gE:=@List.length_set
abbrev gF:=@Bool.true_and
abbrev gG:=@List.drop_append_of_le_length
abbrev gH:=@List.take_succ_eq_append_getElem
abbrev gI:=@List.take_append_drop
abbrev gJ:=@List.length_map
abbrev gK:=@List.not_mem_nil
abbrev gL:=@of_decide_eq_true
abbrev gM:=@List.all_eq_not_any_not
abbrev gN:=@List.takeWhile_cons_of_pos
abbrev gO:=@Option.map_some
abbrev gP:=@List.mem_append
abbrev gQ:=@beq_self_eq_true
abbrev gS:=@Nat.add_assoc
abbrev gT:=@List.take_length
abbrev gU:=@Int.le_refl
abbrev gV:=@List.takeWhile_cons_of_neg
abbrev gW:=@List.take_of_length_le
abbrev gX:=@List.append_eq_nil_iff
abbrev gY:=@List.mem_map_of_mem
abbrev gZ:=@Int.toNat_zero
abbrev fA:=@Nat.add_zero
abbrev fB:=@List.map_append
abbrev fC:=@List.perm_middle
abbrev fD:=@List.any_eq_true
abbrev fE:=@Array.toList_modify
abbrev fF:=@Int.natCast_succ
abbrev fG:=@Nat.max_zero
abbrev fH:=@Nat.eq_of_beq_eq_true
abbrev fI:=@List.any_cons
abbrev fJ:=@List.extract_eq_take_drop
abbrev fK:=@List.mem_of_getElem?
abbrev fL:=@Option.bind_assoc
abbrev fM:=@List.nodup_cons
abbrev fN:=@List.map_inj_left
abbrev fO:=@List.ext_getElem?
abbrev fP:=@Bool.or_eq_true
abbrev fQ:=@Array.toList_push
abbrev fR:=@Nat.lt_or_ge
abbrev fS:=@Nat.add_comm
abbrev fT:=@List.mem_map
abbrev fU:=@List.length_pos_iff
abbrev fV:=@List.filterMap_cons
abbrev fW:=@List.pairwise_cons
abbrev fX:=@List.eq_nil_or_concat
abbrev fY:=@bne_iff_ne
abbrev fZ:=@Array.toList_extract
abbrev hB:=@List.mem_range
abbrev hD:=@List.drop_length
abbrev hF:=@List.drop_append
abbrev hH:=@Nat.one_mul
abbrev hJ:=@List.toList_toArray
abbrev hK:=@List.getElem_modify
abbrev hO:=@Nat.zero_mul
abbrev hQ:=@Nat.max_assoc
abbrev hU:=@Nat.add_sub_cancel
abbrev hY:=@List.sum_cons
abbrev hZ:=@List.getElem_cons_drop
abbrev dA:=@bne_self_eq_false
abbrev dB:=@List.size_toArray
abbrev dC:=@Bool.not_eq_true'
abbrev dD:=@Array.size_append
abbrev dE:=@List.take_left
abbrev dF:=@List.mem_flatMap
abbrev dG:=@or_false
abbrev BA:=ByteArray
end
end Go
namespace Go.Dc
section
theorem kr{p:Prop}(h:p:=by kernel_rfl):p:=h
abbrev bJ:=List (Nat×Value)
def look:bJ->Nat->Option Value
 |[],_=>none
 |(k,v)::L,t=>bif Nat.beq k t then some v else look L t
theorem qFn(A L:bJ)(t:Nat):look (A++L) t=(look A t).or (look L t):=by
 induction A with
 |nil=>simp[look]
 |cons p A a=>obtain⟨k,v⟩:=p;simp only[jO,look];cases Nat.beq k t<;>simp[a]
def bL(L:bJ):Operand->Option Value
 | .tmp t=>look L t
 | .const v=>some v
 | .global g=>some (.pointer (some ⟨g,0,none⟩))
 | .func f=>some (.func (.func f) #[] #[])
theorem ev{L:bJ}{x:Operand}(v:Value)(h:bL L x=some v:=by kernel_rfl):bL L x=some v:=h
def lU(L:bJ)(x:Operand):Value:=(bL L x).getD undef
structure Fr where
 sz:Nat
 marks:List Deferred
instance:Coe Fr Nat:=⟨Fr.sz⟩
def Fits(n:Fr)(a:Act)(L:bJ):Prop:=a.tmps.size=n.sz/\a.defers=n.marks/\∀t v,look L t=some v->a.tmps[t]? =some v
theorem Fits.ev{n:Fr}{a:Act}{L:bJ}(h:Fits n a L){x:Operand}{v:Value}(b:bL L x=some v):a.eval x=v:=by
 cases x with
 |tmp t=>simp[Act.eval,h.2.2 t v b]
 |const u=>simp[bL] at b;simp[Act.eval,b]
 |global g=>simp[bL] at b;simp[Act.eval,b]
 |func f=>simp[bL] at b;simp[Act.eval,b]
def WL:Op->Bool
 | .select .. =>false
 |_=>true
def LB(L:bJ):List Operand->Bool
 |[]=>true
 |x::l=>(bL L x).isSome&&LB L l
def nM(L:bJ)(o:Op):Bool:=WL o&&LB L o.operands.toList
theorem qFp{L:bJ}{l:List Operand}(h:LB L l=true):∀x∈l,(bL L x).isSome=true:=by
 induction l with
 |nil=>simp
 |cons y l b=>
  simp only[LB,jM] at h
  intro x a
  rcases jR.1 a with rfl|a
  .exact h.1
  exact b h.2 x a
theorem Fits.exec{n:Fr}{a:Act}{L:bJ}(h:Fits n a L){o:Oper}(ok:nM L o.op=true):execOp a.eval o=execOp (lU L) o:=by
 simp only[nM,jM] at ok
 refine execOp_congr o ?_ ?_
 .intro cs b c;rw[c] at ok;simp[WL] at ok
 intro x d
 have:=qFp ok.2 x (by simpa using d)
 obtain⟨v,c⟩:=Option.isSome_iff_exists.1 this
 rw[h.ev c];simp[lU,c]
theorem Fits.put{n:Fr}{a:Act}{L:bJ}(h:Fits n a L){d:Nat}(g:Nat.blt d n=true)(v:Value):Fits n (a.put (some d) v) ((d,v)::L):=by
 obtain⟨c,e,f⟩:=h
 have hd':d<n:=by simpa[Nat.blt_eq] using g
 refine⟨by simp[Act.put,c],by simp[Act.put,e],?_⟩
 intro t u b
 simp only[look] at b
 simp only[Act.put]
 by_cases hdt:d=t
 .subst hdt
  simp at b;subst b
  simp[Array.getElem?_setIfInBounds,c,hd']
 have:Nat.beq d t=false:=by cases hb:Nat.beq d t<;>simp_all [Nat.beq_eq]
 rw[this] at b
 simp[Array.getElem?_setIfInBounds,hdt,f t u b]
theorem Fits.sub{n:Fr}{a:Act}{L L':bJ}(h:Fits n a L)(b:∀t v,look L' t=some v->look L t=some v):Fits n a L':=
 ⟨h.1,h.2.1,fun t v c=>h.2.2 t v (b t v c)⟩
def qI(P:Program){α:Type}:Sem α->Option α
 | .pure a=>some a
 | .program k=>qI P (k P)
 | .mark _ k=>qI P k
 |_=>none
theorem zO{P:Program}{α:Type}{s:Sem α}{a:α}(h:qI P s=some a)(w:World):s.run P w= .ok a w:=by
 induction s with
 |pure b=>simp[qI] at h;subst h;rfl
 |program k c=>exact c P h
 |mark m k c=>exact c h
 |_=>simp[qI] at h
def mO(ops:Array Oper)(L:bJ)(g:Option (Nat×Bool)):Option Bool:=
 match g with
 |none=>some true
 |some (j,want)=>match(ops[j]?).bind (·.dst) with
  |none=>some false
  |some t=>match look L t with
   |none=>none
   |some (.bool b)=>some (bif want then b else !b)
   |some _=>some false
theorem Fits.wanted{n:Fr}{a:Act}{L:bJ}(h:Fits n a L){ops:Array Oper}{o:Oper}{b:Bool}(c:mO ops L o.guard=some b):
  Region.wanted o (yielded ops a.tmps)=b:=by
 unfold mO at c
 unfold Region.wanted
 cases f:o.guard with
 |none=>simp[f] at c;simp[c]
 |some jw=>
  obtain⟨j,want⟩:=jw
  simp only[f] at c
  simp only[yielded]
  cases e:(ops[j]?).bind (·.dst) with
  |none=>simp[e] at c;subst c;rfl
  |some t=>
   simp only[e] at c
   cases d:look L t with
   |none=>simp[d] at c
   |some v=>
    have:=h.2.2 t v d
    simp only[d] at c
    cases v<;>simp_all<;>(subst c;cases want<;>simp)
def putL(n:Nat)(d:Option Nat)(v:Value)(L:bJ):Option bJ:=
 match d with
 |none=>some L
 |some d=>bif Nat.blt d n then some ((d,v)::L) else none
def JB:Option Next->Option Value
 |some (.value v)=>some v
 |some .skip=>some undef
 |_=>none
def rW(P:Program)(n:Nat)(ops:Array Oper):Nat->Nat->bJ->Option bJ
 |0,_,L=>some L
 |k+1,i,L=>match ops[i]? with
  |none=>none
  |some o=>match mO ops L o.guard with
   |none=>none
   |some false=>(putL n o.dst undef L).bind fun L=>rW P n ops k (i+1) L
   |some true=>bif nM L o.op then(JB (qI P (execOp (lU L) o))).bind fun v=>(putL n o.dst v L).bind fun L=>rW P n ops k (i+1) L else none
def dZ(ops:Array Oper):Nat->Nat->List Nat
 |0,_=>[]
 |k+1,i=>((ops[i]?).bind (·.dst)).toList++dZ ops k (i+1)
def mW(ρ:Option Nat):Fence:={Fence.wide with round:=ρ}
def nI(P:Program)(ops:Array Oper)(Q:Exit->Act->World->Prop)(i:Nat)(K:Act->World->Prop)(a:Act)(w:World):Prop:=
 match ops[i]? with
 |none=>K a w
 |some o=>if Region.wanted o (yielded ops a.tmps) then o.uponIn Fence.wide 0 P a K Q ((execOp a.eval o).run P w) else K (a.put o.dst undef) w
def xD(P:Program)(ops:Array Oper)(Q:Exit->Act->World->Prop):List Nat->Act->World->Prop
 |[],a,w=>Q .normal a w
 |i::rest,a,w=>nI P ops Q i (xD P ops Q rest) a w
theorem UE{ρ:Option Nat}{P:Program}{o:Oper}{a:Act}{K K':Act->World->Prop}{Q:Exit->Act->World->Prop}{r:Result Next}(h:∀a w,K a w->K' a w)(c:o.uponIn Fence.wide 0 P a K Q r):o.uponIn (mW ρ) 0 P a K' Q r:=by
 cases r with
 |ok x w'=>
  cases x<;>simp only[Oper.uponIn] at c ⊢ <;>
   first
    |exact h _ _ c
    |exact⟨fun e=>by simp[mW,Fence.wide] at e,CallsIn.mono (F:=mW ρ) c.2 (fun e w'' b=>by cases e<;>first|exact h _ _ b|exact b)⟩
    |exact⟨fun e=>by simp[mW,Fence.wide] at e,RowsIn.mono (F:=mW ρ) c.2 (fun _ _ b=>h _ _ b)⟩
    |exact⟨fun e=>by simp[mW,Fence.wide] at e,RoundIn.mono (F:=mW ρ) c.2 (fun e w'' b=>by cases e<;>first|exact h _ _ b|exact b)⟩
 |halt x w'=>cases x<;>simp only[Oper.uponIn] at c ⊢ <;>exact c
theorem KO{P:Program}{ops:Array Oper}{Q:Exit->Act->World->Prop}{i:Nat}{K K':Act->World->Prop}{a:Act}{w:World}(h:∀a w,K a w->K' a w)(b:nI P ops Q i K a w):nI P ops Q i K' a w:=by
 unfold nI at*
 split
 .rename_i ho;simp only[ho] at b;exact h _ _ b
 rename_i o ho
 simp only[ho] at b
 split
 .rename_i hw;simp only[hw,jJ] at b;exact UE (ρ:=none) h b
 rename_i hw;simp only[hw] at b;exact h _ _ b
def DC(ρ:Option Nat)(ops:Array Oper):Bool:=
 match ρ with
 |none=>true
 |some _=>ops.toList.all fun o=>match o.op with
  | .defer _=>false
  |_=>true
theorem qFh{ρ:Option Nat}{ops:Array Oper}(h:DC ρ ops=true){i:Nat}{o:Oper}(b:ops[i]? =some o)(ev:Operand->Value):o.semAt ρ ev=execOp ev o:=by
 cases ρ with
 |none=>rfl
 |some l=>
  refine Oper.semAt_eq _ _ _ fun c a=> ?_
  have:=kE.1 h o (by simpa using Array.mem_of_getElem? b)
  rw[a] at this
  exact kJ this
theorem ZX{ρ:Option Nat}{P:Program}{ops:Array Oper}{Q:Exit->Act->World->Prop}(d:DC ρ ops=true){i:Nat}{K K':Act->World->Prop}(b:∀a w,K a w->K' a w){a:Act}{w:World}(h:nI P ops Q i K a w):wpOpIn (mW ρ) 0 P ops Q i K' a w:=by
 unfold nI at h
 unfold wpOpIn
 cases c:ops[i]? with
 |none=>simp only[c] at h ⊢;exact b _ _ h
 |some o=>
  simp only[c] at h ⊢
  by_cases hw:Region.wanted o (yielded ops a.tmps)=true
  .simp only[hw,jJ] at h ⊢
   refine⟨fun _ _=>trivial,?_⟩
   have e:o.semAt (mW ρ).round a.eval=execOp a.eval o:=qFh d c a.eval
   rw[e]
   exact UE b h
  simp only[hw] at h ⊢
  exact⟨fun _ _=>trivial,b _ _ h⟩
theorem ZI{ρ:Option Nat}{P:Program}{ops:Array Oper}{Q:Exit->Act->World->Prop}(b:DC ρ ops=true):∀(l:List Nat) (a:Act) (w:World),xD P ops Q l a w->wpOpsIn (mW ρ) 0 P ops Q l a w
 |[],_,_,h=>h
 |i::rest,a,w,h=>by
  rw[wpOpsIn_cons]
  exact ZX b (ZI b rest) h
def WO(P:Program)(n:Fr)(ops:Array Oper)(Q:Exit->Act->World->Prop)(i:Nat)(L:bJ)(w:World):Prop:=
 ∀a,Fits n a L->xD P ops Q (List.range' i (ops.size-i)) a w
theorem GY{ops:Array Oper}{i:Nat}{o:Oper}(h:ops[i]? =some o):List.range' i (ops.size-i)=i::List.range' (i+1) (ops.size-(i+1)):=by
 have hi:i<ops.size:=(Array.getElem?_eq_some_iff.1 h).1
 have:ops.size-i=(ops.size-(i+1))+1:=by omega
 rw[this,List.range'_succ]
theorem Fits.putL{n:Fr}{a:Act}{L L':bJ}(h:Fits n a L){d:Option Nat}{v:Value}(b:Dc.putL n d v L=some L'):Fits n (a.put d v) L':=by
 cases d with
 |none=>simp[Dc.putL] at b;subst b;exact h
 |some d=>
  simp only[Dc.putL] at b
  cases c:Nat.blt d n with
  |false=>simp[c] at b
  |true=>simp[c] at b;subst b;exact h.put c v
section
variable {P:Program} {n:Fr} {ops:Array Oper} {Q:Exit->Act->World->Prop}
theorem QA:∀(k i:Nat) (L L':bJ) (w:World),rW P n ops k i L=some L'->WO P n ops Q (i+k) L' w->WO P n ops Q i L w
 |0,i,L,L',w,h,g=>by simp[rW] at h;subst h;exact g
 |k+1,i,L,L',w,h,g=>by
  intro a f
  simp only[rW] at h
  cases l:ops[i]? with
  |none=>simp[l] at h
  |some o=>
   simp only[l] at h
   rw[GY l]
   simp only[xD,nI,l]
   cases q:mO ops L o.guard with
   |none=>simp[q] at h
   |some b=>
    have c:=f.wanted q
    cases b with
    |false=>
     simp only[q] at h
     obtain⟨L1,r,s⟩:=jP.1 h
     simp only[c,jB,jI]
     exact QA k (i+1) L1 L' w s (by rw[gS,fS 1 k];exact g) _ (f.putL r)
    |true=>
     simp only[q] at h
     cases e:nM L o.op with
     |false=>simp[e] at h
     |true=>
      simp only[e,cond_true] at h
      obtain⟨v,p,h⟩:=jP.1 h
      obtain⟨L1,r,s⟩:=jP.1 h
      simp only[c,jJ]
      have next:=QA k (i+1) L1 L' w s (by rw[gS,fS 1 k];exact g) _ (f.putL r)
      rw[f.exec e]
      cases d:qI P (execOp (lU L) o) with
      |none=>simp[d,JB] at p
      |some nx=>
       rw[zO d w]
       cases nx<;>simp[d,JB] at p
       case value u=>subst p;exact next
       case skip=>subst p;exact next
def zT(P:Program)(n:Nat)(ops:Array Oper)(k i:Nat)(L:bJ)(ks:List Nat):Option (List (Option Value)):=(rW P n ops k i L).map fun L'=>ks.map (look L')
def DX(d:Nat):bJ->Bool
 |[]=>false
 |p::l=>Nat.beq p.1 d||DX d l
def uW(L new:bJ):List Nat->Bool
 |[]=>true
 |d::l=>(DX d new||(look L d).isNone)&&uW L new l
theorem WY{d:Nat}:∀{l:bJ},DX d l=true->∃v,look l d=some v
 |[],h=>by simp[DX] at h
 |(k,v)::l,h=>by
  simp only[DX,fP] at h
  simp only[look]
  cases hb:Nat.beq k d with
  |true=>exact⟨v,rfl⟩
  |false=>simp[hb] at h;exact WY h
theorem wS{d:Nat}{v:Value}:∀{l:bJ},look l d=some v->(d,v)∈l
 |[],h=>by simp[look] at h
 |(k,u)::l,h=>by
  simp only[look] at h
  cases a:Nat.beq k d with
  |true=>simp[a] at h;subst h;have:=fH a;subst this;exact jH ..
  |false=>simp[a] at h;exact jK _ (wS h)
theorem TX{L new:bJ}:∀{l:List Nat},uW L new l=true->∀d∈l,DX d new=true\/look L d=none
 |[],_=>by simp
 |e::l,h=>by
  simp only[uW,jM,fP,Option.isNone_iff_eq_none] at h
  intro d a
  rcases jR.1 a with rfl|a
  .exact h.1
  exact TX h.2 d a
theorem PA:∀(k i:Nat) (L L':bJ),rW P n ops k i L=some L'->∀t,t∉dZ ops k i->look L' t=look L t
 |0,i,L,L',h,t,_=>by simp[rW] at h;subst h;rfl
 |k+1,i,L,L',h,t,c=>by
  simp only[rW] at h
  cases g:ops[i]? with
  |none=>simp[g] at h
  |some o=>
   simp only[g] at h
   simp only[dZ,g,j0,gP,not_or] at c
   have put:∀v L1,putL n o.dst v L=some L1->look L1 t=look L t:=by
    intro v L1 a
    cases e:o.dst with
    |none=>simp[putL,e] at a;subst a;rfl
    |some d=>
     simp only[putL,e] at a
     cases f:Nat.blt d n with
     |false=>simp[f] at a
     |true=>
      simp[f] at a;subst a
      have l:d≠t:=by rintro rfl;exact c.1 (by simp[e])
      have:Nat.beq d t=false:=by cases hq:Nat.beq d t<;>simp_all [Nat.beq_eq]
      simp[look,this]
   cases l:mO ops L o.guard with
   |none=>simp[l] at h
   |some b=>
    cases b with
    |false=>
     simp only[l] at h
     obtain⟨L1,a,f⟩:=jP.1 h
     rw[PA k (i+1) L1 L' f t c.2,put _ _ a]
    |true=>
     simp only[l] at h
     cases e:nM L o.op with
     |false=>simp[e] at h
     |true=>
      simp only[e,cond_true] at h
      obtain⟨v,p,h⟩:=jP.1 h
      obtain⟨L1,a,f⟩:=jP.1 h
      rw[PA k (i+1) L1 L' f t c.2,put _ _ a]
theorem sV{i:Nat}{L:bJ}{w:World}(k:Nat)(new:bJ)(f:zT P n ops k i L (new.map (·.1))=some (new.map fun p=>some p.2))
  (o:uW L new (dZ ops k i)=true) (h:WO P n ops Q (i+k) (new++L) w):WO P n ops Q i L w:=by
 simp only[zT,kT] at f
 obtain⟨L',g,s⟩:=f
 refine QA k i L L' w g ?_
 intro a r
 refine h a (r.sub ?_)
 intro t v b
 rw[qFn] at b
 cases hn:look new t with
 |some u=>
  simp[hn] at b;subst b
  have e:=wS hn
  have:∀(l:bJ),l.map (look L'∘(·.1))=l.map (fun p=>some p.2)->∀p∈l,look L' p.1=some p.2:=by
   intro l d p c
   induction l with
   |nil=>simp at c
   |cons q l x=>
    simp only[kG,kV,Function.comp] at d
    rcases jR.1 c with rfl|c
    .exact d.1
    exact x (by simpa[Function.comp] using d.2) c
  exact this new (by simpa using s) (t,u) e
 |none=>
  simp[hn] at b
  by_cases hw:t∈dZ ops k i
  .rcases TX o t hw with c|d
   .obtain⟨u,e⟩:=WY c;rw[e] at hn;cases hn
   rw[d] at b;cases b
  rw[PA k i L L' g t hw];exact b
def cL(ops:Array Oper)(L:bJ)(i:Nat):Option (Option Nat×Op):=
 match ops[i]? with
 |none=>none
 |some o=>match mO ops L o.guard with
  |some true=>bif nM L o.op then some (o.dst,o.op) else none
  |_=>none
theorem GX{L:bJ}{i:Nat}{d:Option Nat}{op:Op}(h:cL ops L i=some (d,op)):
  ∃o,ops[i]? =some o/\o.dst=d/\o.op=op/\mO ops L o.guard=some true/\nM L o.op=true:=by
 unfold cL at h
 cases e:ops[i]? with
 |none=>simp[e] at h
 |some o=>
  simp only[e] at h
  cases a:mO ops L o.guard with
  |none=>simp[a] at h
  |some b=>
   cases b with
   |false=>simp[a] at h
   |true=>
    simp only[a] at h
    cases c:nM L o.op with
    |false=>simp[c] at h
    |true=>
     simp[c] at h
     exact⟨o,rfl,h.1,h.2,a,c⟩
def dN(P:Program)(n:Fr)(ops:Array Oper)(Q:Exit->Act->World->Prop)(i:Nat)(N:bJ->World->Prop)(L:bJ)(w:World):Prop:=
 ∀a,Fits n a L->nI P ops Q i (fun a' w'=>∃L',Fits n a' L'/\N L' w') a w
theorem bB{i:Nat}{L:bJ}{w:World}(hi:Nat.blt i ops.size=true)(h:dN P n ops Q i (fun L w=>WO P n ops Q (i+1) L w) L w):WO P n ops Q i L w:=by
 have hi':i<ops.size:=by simpa[Nat.blt_eq] using hi
 intro a d
 have e:ops[i]? =some ops[i]:=Array.getElem?_eq_getElem hi'
 rw[GY e]
 have fin:∀a' w',(∃L',Fits n a' L'/\WO P n ops Q (i+1) L' w')->xD P ops Q (List.range' (i+1) (ops.size-(i+1))) a' w':=fun a' w' ⟨L',b,c⟩=>c a' b
 exact KO fin (h a d)
section
variable {N:bJ->World->Prop}
theorem lL{i d:Nat}{op:Op}{L:bJ}{w w':World}{v:Value}(q:cL ops L i=some (some d,op))(p:Nat.blt d n=true)
  (c:∀o:Oper,o.op=op->(execOp (lU L) o).run P w= .ok (.value v) w')
  (h:N ((d,v)::L) w'):dN P n ops Q i N L w:=by
 obtain⟨o,e,f,g,k,l⟩:=GX q
 intro a b
 unfold nI
 simp only[e,b.wanted k,jJ]
 rw[b.exec l,c o g,Oper.uponIn_value,f]
 exact⟨_,b.put p v,h⟩
theorem zM{i:Nat}{op:Op}{L:bJ}{w w':World}(l:cL ops L i=some (none,op))
  (c:∀o:Oper,o.op=op->(execOp (lU L) o).run P w= .ok .skip w')
  (h:N L w'):dN P n ops Q i N L w:=by
 obtain⟨o,d,e,f,g,k⟩:=GX l
 intro a b
 unfold nI
 simp only[d,b.wanted g,jJ]
 rw[b.exec k,c o f,Oper.uponIn_skip,e]
 exact⟨_,b,h⟩
theorem zL{i d:Nat}{op:Op}{L:bJ}{w w':World}{v:Value}(q:cL ops L i=some (some d,op))(l:Nat.blt d n=true)
  (c:∀o:Oper,o.op=op->∃v' w',(execOp (lU L) o).run P w= .ok (.value v') w'/\N ((d,v')::L) w'):dN P n ops Q i N L w:=by
 obtain⟨o,e,f,g,h,k⟩:=GX q
 obtain⟨v',w'',r,p⟩:=c o g
 intro a b
 unfold nI
 simp only[e,b.wanted h,jJ]
 rw[b.exec k,r,Oper.uponIn_value,f]
 exact⟨_,b.put l v',p⟩
def sX(P:Program)(ops:Array Oper)(L:bJ)(i:Nat):Option (Option Nat×Nat×Array Value):=
 match ops[i]? with
 |none=>none
 |some o=>match mO ops L o.guard with
  |some true=>bif nM L o.op then(match qI P (execOp (lU L) o) with
   |some (.enter f args)=>some (o.dst,f,args)
   |_=>none) else none
  |_=>none
theorem UD{L:bJ}{i f:Nat}{d:Option Nat}{args:Array Value}(h:sX P ops L i=some (d,f,args)):
  ∃o,ops[i]? =some o/\o.dst=d/\mO ops L o.guard=some true/\nM L o.op=true/\qI P (execOp (lU L) o)=some (.enter f args):=by
 unfold sX at h
 cases e:ops[i]? with
 |none=>simp[e] at h
 |some o=>
  simp only[e] at h
  cases a:mO ops L o.guard with
  |none=>simp[a] at h
  |some b=>
   cases b with
   |false=>simp[a] at h
   |true=>
    simp only[a] at h
    cases c:nM L o.op with
    |false=>simp[c] at h
    |true=>
     simp only[c,cond_true] at h
     split at h
     .rename_i f' args' he
      simp only[jL,Prod.mk.injEq] at h
      obtain⟨g,rfl,rfl⟩:=h
      exact⟨o,rfl,g,a,c,he⟩
     cases h
theorem eJ{i:Nat}{L:bJ}{w:World}(d f:Nat)(args:Array Value)(q:sX P ops L i=some (some d,f,args))(k:Nat.blt d n=true)
  (h:Calls P f args w fun e w'=>∃v,e= .returned v/\N ((d,v)::L) w'):dN P n ops Q i N L w:=by
 obtain⟨o,c,g,r,p,l⟩:=UD q
 intro a b
 unfold nI
 simp only[c,b.wanted r,jJ]
 rw[b.exec p,zO l w,Oper.uponIn_enter]
 refine⟨fun e=>by simp[Fence.wide] at e,CallsIn.mono (callsIn_wide.2 h) ?_⟩
 rintro e w' ⟨v,rfl,hk'⟩
 rw[g]
 exact⟨_,b.put k v,hk'⟩
end
theorem aS{L:bJ}{w:World}{i:Nat}(hi:ops.size=i)(h:∀a,Fits n a L->Q .normal a w):WO P n ops Q i L w:=by
 intro a b
 subst hi
 simp only[Nat.sub_self,List.range'_zero,xD]
 exact h a b
theorem aT{i:Nat}{L:bJ}{w:World}(L':bJ)(d:L'.map (fun p=>look L p.1)=L'.map fun p=>some p.2)(h:WO P n ops Q i L' w):WO P n ops Q i L w:=by
 intro a b
 refine h a (b.sub ?_)
 intro t v e
 have c:=wS e
 have:=(fN.1 d) (t,v) c
 exact this
end
def W(ρ:Option Nat)(P:Program)(n:Fr)(c:Code)(Q:Exit->Act->World->Prop)(L:bJ)(w:World):Prop:=∀a,Fits n a L->c.wpIn (mW ρ) 0 P Q a w
def X(n:Fr)(Q:Exit->Act->World->Prop)(e:Exit)(L:bJ)(w:World):Prop:=∀a,Fits n a L->Q e a w
section
variable {ρ:Option Nat} {P:Program} {n:Fr} {Q:Exit->Act->World->Prop} {L:bJ} {w:World}
theorem aD{y:Code}(h:W ρ P n y Q L w):X n (Exit.then (fun a w=>y.wpIn (mW ρ) 0 P Q a w) Q) .normal L w:=h
theorem bF{K:Act->World->Prop}{id:Nat}(h:X n Q (.exit id) L w):X n (Exit.then K Q) (.exit id) L w:=h
theorem aK{K:Act->World->Prop}(h:X n Q .ret L w):X n (Exit.then K Q) .ret L w:=h
theorem bG{id:Nat}(h:X n Q .normal L w):X n (Exit.inBlock id Q) .normal L w:=h
theorem bA{id:Nat}(h:X n Q .ret L w):X n (Exit.inBlock id Q) .ret L w:=h
theorem cM{id:Nat}(h:X n Q .normal L w):X n (Exit.inBlock id Q) (.exit id) L w:=by
 intro a b;simp only[Exit.inBlock,jJ];exact h a b
theorem yY{id id':Nat}(b:Nat.beq id' id=false)(h:X n Q (.exit id') L w):X n (Exit.inBlock id Q) (.exit id') L w:=by
 intro a c
 have:¬id'=id:=by rintro rfl;simp at b
 simp only[Exit.inBlock,if_neg this];exact h a c
theorem aE{x y:Code}(h:W ρ P n x (Exit.then (fun a w=>y.wpIn (mW ρ) 0 P Q a w) Q) L w):W ρ P n (.seq x y) Q L w:=fun a b=>wpIn_seq (h a b)
theorem aN(h:X n Q .normal L w):W ρ P n .skip Q L w:=fun a b=>wpIn_skip (h a b)
theorem aM(h:X n Q .ret L w):W ρ P n .ret Q L w:=fun a b=>wpIn_ret (h a b)
theorem cG{id:Nat}(h:X n Q (.exit id) L w):W ρ P n (.exit id) Q L w:=fun a b=>wpIn_exit (h a b)
theorem aZ{id:Nat}{c:Code}(h:W ρ P n c (Exit.inBlock id Q) L w):W ρ P n (.block id c) Q L w:=fun a b=>wpIn_block (h a b)
theorem qIa{id:Nat}{ops:Array Oper}(c:DC ρ ops=true)(h:WO P n ops Q 0 L w):W ρ P n (.region id ops false) Q L w:=by
 intro a b
 refine wpIn_region (ZI c _ _ _ ?_)
 have:=h a b
 simpa[List.range_eq_range'] using this
theorem aX{id:Nat}{ops:Array Oper}(h:WO P n ops Q 0 L w):W none P n (.region id ops false) Q L w:=qIa rfl h
theorem sW{c:Operand}{x y:Code}(b:Bool)(e:bL L c=some (.bool b))(g:b=true->W ρ P n x Q L w)(f:b=false->W ρ P n y Q L w):W ρ P n (.cond c x y) Q L w:=
 fun a d=>wpIn_cond_split (d.ev e) (fun h=>g h a d) (fun h=>f h a d)
theorem cK{c:Code}(L':bJ)(d:L'.map (fun p=>look L p.1)=L'.map fun p=>some p.2)(h:W ρ P n c Q L' w):W ρ P n c Q L w:=by
 intro a b
 refine h a (b.sub ?_)
 intro t v e
 exact(fN.1 d) (t,v) (wS e)
theorem qZ{e:Exit}(L':bJ)(c:L'.map (fun p=>look L p.1)=L'.map fun p=>some p.2)(h:X n Q e L' w):X n Q e L w:=by
 intro a b
 refine h a (b.sub ?_)
 intro t v d
 exact(fN.1 c) (t,v) (wS d)
theorem cJ{c:Code}(I:Nat->bJ->World->Prop)(k:Nat)(f:I k L w)
  (round:∀k L w,I k L w->W ρ P n c (Exit.then (fun a' w'=>∃k' L',k'<k/\Fits n a' L'/\I k' L' w') Q) L w):W ρ P n (.loop c) Q L w:=by
 intro a b
 refine wpIn_loop_ghost (fun k a w=>∃L,Fits n a L/\I k L w) k ⟨L,b,f⟩ ?_
 rintro k a w ⟨L,b,o⟩
 refine wpIn_mono (round k L w o a b) ?_
 intro e a' w' d
 cases e with
 |normal=>obtain⟨k',L',g,h,l⟩:=d;exact⟨k',g,L',h,l⟩
 |_=>exact d
theorem qMl{k:Nat}{I:Nat->bJ->World->Prop}(k':Nat)(b:k'<k)(h:I k' L w):X n (Exit.then (fun a' w'=>∃k' L',k'<k/\Fits n a' L'/\I k' L' w') Q) .normal L w:=
 fun _ a=>⟨k',L,b,a,h⟩
theorem QI{f:FuncId}{fn:Func}{c:Code}{args:Array Value}{R:Ending->World->Prop}(e:P.funcs[f]? =some fn)(d:fn.body=some c){k:Nat}(g:fn.ntmps=k)(L:bJ)
  (b:L.map (fun p=>(args[p.1]?))=L.map fun p=>some p.2) (a:Nat.ble args.size k=true) (h:W none P ⟨k,[]⟩ c (bodyPost P fn R) L w):Calls P f args w R:=by
 refine calls_of_wp e d (wpIn_wide.1 (h _ ⟨?_,rfl,?_⟩))
 .subst g
  have:args.size<=fn.ntmps:=gA a
  simp only[dD,Array.size_replicate];omega
 intro t v n
 have:=(fN.1 b) (t,v) (wS n)
 have l:t<args.size:=(Array.getElem?_eq_some_iff.1 this).1
 simp only[Array.getElem?_append,l,jJ]
 exact this
end
attribute [irreducible] xD
end
section
def RU:List (Nat×Array Value):=[(1,((List.range 20).map fun i=>Value.int .u64 ((10^i:Nat):Int)).toArray)]
structure Mem where
 cell:Nat->Nat->Option Value
 obj:Nat->Option Obj
 wd:World
 ht:∀p∈RU,∃t f,obj p.1=some (.cells p.2 t f)
def qMn:Bool:=false
def Step(w w':World):Prop:=(w'.os=w.os/\w'.output=w.output)/\w'.tape=w.tape/\(qMn=true->w.drawn<=w'.drawn)
theorem mK{p:Prop}(h:p:=by first|exact fun _=>jT _|exact fun _=>Nat.le_succ _):p:=h
theorem Step.refl(w:World):Step w w:=⟨⟨rfl,rfl⟩,rfl,mK⟩
theorem Step.trans{c d e:World}(a:Step c d)(b:Step d e):Step c e:=⟨⟨b.1.1.trans a.1.1,b.1.2.trans a.1.2⟩,b.2.1.trans a.2.1,fun h=>Nat.le_trans (a.2.2 h) (b.2.2 h)⟩
def Mem.le(m m':Mem):Prop:=(∀b o v,m.cell b o=some v->m'.cell b o=some v)/\(∀b x,m.obj b=some x->m'.obj b=some x)/\m.wd=m'.wd
theorem Mem.le_refl(m:Mem):m.le m:=⟨fun _ _ _ h=>h,fun _ _ h=>h,rfl⟩
theorem Mem.le_trans{c d e:Mem}(a:c.le d)(b:d.le e):c.le e:=⟨fun _ _ _ h=>b.1 _ _ _ (a.1 _ _ _ h),fun _ _ h=>b.2.1 _ _ (a.2.1 _ _ h),a.2.2.trans b.2.2⟩
def Inv(m:Mem)(w:World):Prop:=
 (∀b o v,m.cell b o=some v->∃c e f,w.heap[b]? =some (.cells c e f)/\c[o]? =some v)/\(∀b x,m.obj b=some x->w.heap[b]? =some x)/\Step m.wd w
inductive Piece where
 |blk (b:Nat) (o:Obj)
 |room (a:Option Addr) (n cap:Nat) (e:TypeId) (sz:Nat)
def Piece.block:Piece->Option Nat
 | .blk b _=>some b
 | .room a _ _ _ _=>a.map (·.block)
def SA(m:Mem)(b:Nat):Prop:=(∀o,m.cell b o=none)/\m.obj b=none
def Piece.holds(m:Mem)(w:World):Piece->Prop
 | .blk b o=>w.heap[b]? =some o/\SA m b
 | .room none n cap _ _=>n=0/\cap=0
 | .room (some p) n cap e sz=>p.off=0/\p.spot=none/\n<=cap/\cap<=maxLen/\(∃cur,w.heap[p.block]? =some (.cells cur e (0,0))/\cur.size=cap*sz)/\
  (∀o,n*sz<=o->m.cell p.block o=none)/\m.obj p.block=none
def St(m:Mem)(own:List Piece)(w:World):Prop:=Inv m w/\(∀p∈own,p.holds m w)/\(own.filterMap Piece.block).Nodup
theorem sT{w:World}{b:Nat}{x:Obj}(h:w.heap[b]? =some x):b<w.heap.size:=(Array.getElem?_eq_some_iff.1 h).1
theorem Piece.holds_lt{m:Mem}{w:World}{p:Piece}(h:p.holds m w){b:Nat}(d:p.block=some b):b<w.heap.size:=by
 cases p with
 |blk c o=>simp[Piece.block] at d;subst d;exact sT h.1
 |room a n cap e sz=>
  cases a with
  |none=>simp[Piece.block] at d
  |some q=>simp[Piece.block] at d;subst d;obtain⟨_,_,_,_,⟨cur,f,_⟩,_⟩:=h;exact sT f
theorem St.inv{m:Mem}{own:List Piece}{w:World}(h:St m own w):Inv m w:=h.1
theorem St.fresh_free{m:Mem}{own:List Piece}{w:World}(h:St m own w):SA m w.heap.size:=by
 constructor
 .intro o
  cases hc:m.cell w.heap.size o with
  |none=>rfl
  |some v=>
   obtain⟨c,e,f,a,_⟩:=h.1.1 _ _ _ hc
   have:=sT a;omega
 cases hc:m.obj w.heap.size with
 |none=>rfl
 |some x=>have:=sT (h.1.2.1 _ _ hc);omega
theorem Inv.keep{m:Mem}{w w':World}(h:Inv m w)(n:Step w w')(k:∀b,(∃x,w.heap[b]? =some x)->¬SA m b->w'.heap[b]? =w.heap[b]?):Inv m w':=by
 refine⟨?_,?_,h.2.2.trans n⟩
 .intro b o v g
  obtain⟨c,e,f,a,l⟩:=h.1 b o v g
  exact⟨c,e,f,by rw[k b ⟨_,a⟩ (fun d=>by rw[d.1 o] at g;cases g)];exact a,l⟩
 intro b x g
 have a:=h.2.1 b x g
 rw[k b ⟨_,a⟩ (fun d=>by rw[d.2] at g;cases g)];exact a
theorem Piece.holds_keep{m:Mem}{w w':World}{p:Piece}(h:p.holds m w)(d:∀b,p.block=some b->w'.heap[b]? =w.heap[b]?):p.holds m w':=by
 cases p with
 |blk c o=>exact⟨by rw[d c rfl];exact h.1,h.2⟩
 |room a n cap e sz=>
  cases a with
  |none=>exact h
  |some q=>
   obtain⟨f,g,k,l,⟨cur,r,s⟩,t⟩:=h
   exact⟨f,g,k,l,⟨cur,by rw[d _ rfl];exact r,s⟩,t⟩
theorem St.grow{m:Mem}{own:List Piece}{w w':World}(h:St m own w)(e:Step w w')(a:∀b,b<w.heap.size->w'.heap[b]? =w.heap[b]?):St m own w':=
 ⟨h.1.keep e fun b ⟨_,f⟩ _=>a b (sT f),fun p c=>Piece.holds_keep (h.2.1 p c) fun b d=>a b (Piece.holds_lt (h.2.1 p c) d),h.2.2⟩
theorem CS{own:List Piece}{b:Nat}:b∈own.filterMap Piece.block↔∃p∈own,p.block=some b:=by simp[List.mem_filterMap]
theorem St.block_lt{m:Mem}{own:List Piece}{w:World}(h:St m own w){b:Nat}(c:b∈own.filterMap Piece.block):b<w.heap.size:=by
 obtain⟨p,d,a⟩:=CS.1 c
 exact Piece.holds_lt (h.2.1 p d) a
theorem St.alloc{m:Mem}{own:List Piece}{w w':World}(h:St m own w){o:Obj}(g:Step w w')(d:w'.heap=w.heap.push o):St m (.blk w.heap.size o::own) w':=by
 have c:=h.grow (w':=w') g (fun b e=>by rw[d,Array.getElem?_push];simp[Nat.ne_of_lt e])
 refine⟨c.1,?_,?_⟩
 .intro p a
  rcases jR.1 a with rfl|a
  .exact⟨by rw[d];simp,h.fresh_free⟩
  exact c.2.1 p a
 have a:List.filterMap Piece.block (.blk w.heap.size o::own)=w.heap.size::own.filterMap Piece.block:=rfl
 rw[a,fM]
 exact⟨fun f=>by have:=h.block_lt f;omega,h.2.2⟩
theorem St.tail{m:Mem}{p:Piece}{own:List Piece}{w:World}(h:St m (p::own) w):St m own w:=by
 refine⟨h.1,fun q c=>h.2.1 q (jK _ c),?_⟩
 have:=h.2.2
 cases a:p.block with
 |none=>simpa[fV,a] using this
 |some b=>simp only[fV,a,fM] at this;exact this.2
theorem St.head{m:Mem}{p:Piece}{own:List Piece}{w:World}(h:St m (p::own) w):p.holds m w:=h.2.1 p (jH ..)
theorem St.head_ne{m:Mem}{p:Piece}{own:List Piece}{w:World}(h:St m (p::own) w){b:Nat}(a:p.block=some b):b∉own.filterMap Piece.block:=by
 have:=h.2.2
 simp only[fV,a,fM] at this
 exact this.1
theorem St.cons{m:Mem}{p:Piece}{own:List Piece}{w:World}(h:St m own w)(e:p.holds m w)(d:∀b,p.block=some b->b∉own.filterMap Piece.block):St m (p::own) w:=by
 refine⟨h.1,fun q c=> ?_,?_⟩
 .rcases jR.1 c with rfl|c
  .exact e
  exact h.2.1 q c
 cases a:p.block with
 |none=>simpa[fV,a] using h.2.2
 |some b=>simp only[fV,a,fM];exact⟨d b a,h.2.2⟩
theorem St.perm{m:Mem}{own own':List Piece}{w:World}(h:St m own w)(a:own.Perm own'):St m own' w:=
 ⟨h.1,fun p b=>h.2.1 p (a.mem_iff.2 b),(a.filterMap _).nodup_iff.1 h.2.2⟩
theorem St.front1{m:Mem}{a b:Piece}{own:List Piece}{w:World}(h:St m (a::b::own) w):St m (b::a::own) w:=h.perm (.swap b a own)
theorem St.front2{m:Mem}{a b c:Piece}{own:List Piece}{w:World}(h:St m (a::b::c::own) w):St m (c::a::b::own) w:=
 h.perm ((List.Perm.cons a (.swap c b own)).trans (.swap c a _))
theorem St.front3{m:Mem}{a b c d:Piece}{own:List Piece}{w:World}(h:St m (a::b::c::d::own) w):St m (d::a::b::c::own) w:=
 h.perm (((List.Perm.cons a ((List.Perm.cons b (.swap d c own)).trans (.swap d b _)))).trans (.swap d a _))
theorem St.front4{m:Mem}{a b c d e:Piece}{own:List Piece}{w:World}(h:St m (a::b::c::d::e::own) w):St m (e::a::b::c::d::own) w:=by
 refine h.perm ?_
 have:List.Perm (b::c::d::e::own) (e::b::c::d::own):=(List.Perm.cons b ((List.Perm.cons c (.swap e d own)).trans (.swap e c _))).trans (.swap e b _)
 exact(List.Perm.cons a this).trans (.swap e a _)
theorem St.front5{m:Mem}{p0 p1 p2 p3 p4 p5:Piece}{own:List Piece}{w:World}(h:St m (p0::p1::p2::p3::p4::p5::own) w):St m (p5::p0::p1::p2::p3::p4::own) w:=
 h.perm (fC (a:=p5) (l₁:=[p0,p1,p2,p3,p4]) (l₂:=own))
theorem St.front6{m:Mem}{p0 p1 p2 p3 p4 p5 p6:Piece}{own:List Piece}{w:World}(h:St m (p0::p1::p2::p3::p4::p5::p6::own) w):St m (p6::p0::p1::p2::p3::p4::p5::own) w:=
 h.perm (fC (a:=p6) (l₁:=[p0,p1,p2,p3,p4,p5]) (l₂:=own))
theorem St.front7{m:Mem}{p0 p1 p2 p3 p4 p5 p6 p7:Piece}{own:List Piece}{w:World}(h:St m (p0::p1::p2::p3::p4::p5::p6::p7::own) w):St m (p7::p0::p1::p2::p3::p4::p5::p6::own) w:=
 h.perm (fC (a:=p7) (l₁:=[p0,p1,p2,p3,p4,p5,p6]) (l₂:=own))
theorem St.front8{m:Mem}{p0 p1 p2 p3 p4 p5 p6 p7 p8:Piece}{own:List Piece}{w:World}(h:St m (p0::p1::p2::p3::p4::p5::p6::p7::p8::own) w):St m (p8::p0::p1::p2::p3::p4::p5::p6::p7::own) w:=
 h.perm (fC (a:=p8) (l₁:=[p0,p1,p2,p3,p4,p5,p6,p7]) (l₂:=own))
theorem St.set{m:Mem}{own:List Piece}{w w':World}{b:Nat}{o o':Obj}(h:St m (.blk b o::own) w)(s:Step w w')(q:w'.heap[b]? =some o')
  (n:∀k,k<w.heap.size->k≠b->w'.heap[k]? =w.heap[k]?):St m (.blk b o'::own) w':=by
 have l:=h.head
 have f:=h.head_ne (b:=b) rfl
 have a:=h.tail
 refine St.cons ⟨a.1.keep s fun k ⟨x,t⟩ r=>n k (sT t) (fun e=>r (e▸l.2)),fun p g=>Piece.holds_keep (a.2.1 p g) fun k c=>n k (Piece.holds_lt (a.2.1 p g) c) (fun e=>f (CS.2 ⟨p,g,e▸c⟩)),a.2.2⟩ ⟨q,l.2⟩ ?_
 intro k d;simp only[Piece.block,jL] at d;subst d;exact f
def Mem.addCells(m:Mem)(b:Nat)(f:Nat->Option Value):Mem:={m with cell:=fun k o=>if k=b then(match m.cell k o with|some v=>some v|none=>f o) else m.cell k o}
theorem Mem.le_addCells(m:Mem)(b:Nat)(f:Nat->Option Value):m.le (m.addCells b f):=by
 refine⟨fun k o v h=> ?_,fun _ _ h=>h,rfl⟩
 simp only[addCells]
 split
 .simp[h]
 exact h
theorem Piece.holds_addCells{m:Mem}{w:World}{p:Piece}{b:Nat}{f:Nat->Option Value}(h:p.holds m w)(d:p.block≠some b):p.holds (m.addCells b f) w:=by
 cases p with
 |blk c o=>
  have:c≠b:=fun e=>d (by simp[Piece.block,e])
  exact⟨h.1,fun o=>by simp[Mem.addCells,this,h.2.1 o],h.2.2⟩
 |room a n cap e sz=>
  cases a with
  |none=>exact h
  |some q=>
   have:q.block≠b:=fun e=>d (by simp[Piece.block,e])
   obtain⟨g,k,l,r,s,t,u⟩:=h
   exact⟨g,k,l,r,s,fun o v=>by simp[Mem.addCells,this,t o v],u⟩
theorem St.addCells{m:Mem}{own:List Piece}{w:World}(h:St m own w){b:Nat}{f:Nat->Option Value}(l:b∉own.filterMap Piece.block)
  (n:∀o v,f o=some v->∃c e fr,w.heap[b]? =some (.cells c e fr)/\c[o]? =some v):St (m.addCells b f) own w:=by
 refine⟨⟨?_,h.1.2⟩,fun p g=>Piece.holds_addCells (h.2.1 p g) fun e=>l (CS.2 ⟨p,g,e⟩),h.2.2⟩
 intro k o v a
 simp only[Mem.addCells] at a
 split at a
 .rename_i hk;subst hk
  cases d:m.cell k o with
  |some u=>simp[d] at a;subst a;exact h.1.1 _ _ _ d
  |none=>simp[d] at a;exact n o v a
 exact h.1.1 _ _ _ a
def MRow(m:Mem)(b o:Nat)(cs:List Value):Prop:=∀j v,cs[j]? =some v->m.cell b (o+j)=some v
theorem MRow.mono{m m':Mem}{b o:Nat}{cs:List Value}(h:MRow m b o cs)(a:m.le m'):MRow m' b o cs:=fun j v c=>a.1 _ _ _ (h j v c)
theorem MRow.drop{m:Mem}{b o:Nat}{cs:List Value}(h:MRow m b o cs)(k:Nat):MRow m b (o+k) (cs.drop k):=by
 intro j v a
 have:=h (k+j) v (by simpa[List.getElem?_drop] using a)
 rw[gS];exact this
structure Codec(α:Type) where
 sz:Nat
 pos:0<sz
 rep:Mem->α->List Value->Prop
 len:∀m x cs,rep m x cs->cs.length=sz
 one:∀m x cs,rep m x cs->∀v∈cs,v.oneCell'=true
 mono:∀m m' x cs,m.le m'->rep m x cs->rep m' x cs
def RepS{α:Type}(c:Codec α)(m:Mem)(a:Option Addr)(cap:Nat)(l:List α):Prop:=
 l.length<=cap/\cap<=maxLen/\match a with
  |none=>cap=0
  |some p=>(p.spot=none\/l=[])/\∀i x,l[i]? =some x->∃cs,c.rep m x cs/\MRow m p.block (p.off+i*c.sz) cs
theorem RepS.mono{α:Type}{c:Codec α}{m m':Mem}{a:Option Addr}{cap:Nat}{l:List α}(h:RepS c m a cap l)(b:m.le m'):RepS c m' a cap l:=by
 refine⟨h.1,h.2.1,?_⟩
 cases a with
 |none=>exact h.2.2
 |some p=>
  refine⟨h.2.2.1,fun i x f=> ?_⟩
  obtain⟨cs,d,e⟩:=h.2.2.2 i x f
  exact⟨cs,c.mono _ _ _ _ b d,e.mono b⟩
theorem RepS.nil{α:Type}(c:Codec α)(m:Mem):RepS c m none 0 []:=⟨jT _,gC _,rfl⟩
theorem RepS.cells{α:Type}{c:Codec α}{m:Mem}{p:Addr}{cap:Nat}{l:List α}(h:RepS c m (some p) cap l):
  ∃cs,cs.length=l.length*c.sz/\(∀v∈cs,v.oneCell'=true)/\MRow m p.block p.off cs/\∀i x,l[i]? =some x->c.rep m x ((cs.drop (i*c.sz)).take c.sz):=by
 have key:∀(l:List α) (o:Nat),(∀i x,l[i]? =some x->∃cs,c.rep m x cs/\MRow m p.block (o+i*c.sz) cs)->
   ∃cs,cs.length=l.length*c.sz/\(∀v∈cs,v.oneCell'=true)/\MRow m p.block o cs/\∀i x,l[i]? =some x->c.rep m x ((cs.drop (i*c.sz)).take c.sz):=by
  intro l
  induction l with
  |nil=>intro o _;exact⟨[],by simp,by simp,fun j v h=>by simp at h,fun i x h=>by simp at h⟩
  |cons y l A=>
   intro o h
   obtain⟨n,q,z⟩:=h 0 y rfl
   have f:=c.len _ _ _ q
   obtain⟨k,r,s,t,u⟩:=A (o+c.sz) (fun i x g=>by
    obtain⟨cs,a,b⟩:=h (i+1) x (by simpa using g)
    exact⟨cs,a,by rw[kS,hH,fS (i*c.sz),<-gS] at b;exact b⟩)
   refine⟨n++k,by simp[f,r,kS,fS],?_,?_,?_⟩
   .intro v d
    rcases gP.1 d with d|d
    .exact c.one _ _ _ q v d
    exact s v d
   .intro j v d
    rw[List.getElem?_append] at d
    split at d
    .simpa using z j v d
    rename_i hj
    have:=t _ v d
    rw[f] at this hj
    have e:o+c.sz+(j-c.sz)=o+j:=by omega
    rw[e] at this;exact this
   intro i x g
   cases i with
   |zero=>simp at g;subst g;simp[f▸dE (l₁:=n) (l₂:=k)];exact q
   |succ i=>
    have:=u i x (by simpa using g)
    have e:(n++k).drop ((i+1)*c.sz)=k.drop (i*c.sz):=by
     rw[hF,jW (by rw[f,kS];omega),jQ,f,kS,hH,hU]
    rw[e];exact this
 exact key l p.off (h.2.2.2)
def sD(P:Program)(t:TypeId):Option (TypeId×Nat×Nat×Nat):=
 match P.underlying t with
 |some (.slice e)=>match P.info? e with
  |some i=>match i.zero with
   |some z=>some (e,i.size,i.bytes,z.cells.size)
   |none=>none
  |none=>none
 |_=>none
theorem NI{P:Program}{t e sz by_ zs:Nat}(h:sD P t=some (e,sz,by_,zs)):
  P.underlying t=some (.slice e)/\∃i z,P.info? e=some i/\i.zero=some z/\i.size=sz/\i.bytes=by_/\z.cells.size=zs:=by
 unfold sD at h
 split at h
 .rename_i e' he
  split at h
  .rename_i i hi
   split at h
   .rename_i z hz
    simp only[jL,Prod.mk.injEq] at h
    obtain⟨rfl,a,b,c⟩:=h
    exact⟨he,i,z,hi,hz,a,b,c⟩
   cases h
  cases h
 cases h
def sJ(P:Program)(u e:TypeId):Prop:=P.underlying u=some (.slice e)\/P.underlying u=some .string
theorem wQ(g o j:Nat):(⟨g,o,none⟩:Addr).add j=⟨g,o+j,none⟩:=by unfold Addr.add;split<;>simp_all
theorem HA{p:Addr}(a:p.spot=none)(j:Nat):p.add j=⟨p.block,p.off+j,none⟩:=by
 obtain⟨b,o,s⟩:=p
 simp only at a;subst a
 exact wQ b o j
section
variable {P:Program}
def xH(P:Program)(w:World)(sz:Nat)(x:Value)(n:Nat)(news:List Value):Prop:=
 (Builtin.lenOf x).run P w= .ok n w/\(Builtin.firstCells sz n x).run P w= .ok news.toArray w/\news.length=n*sz/\∀v∈news,v.oneCell'=true
theorem TK(w:World)(t u ty e:TypeId)(i:TypeInfo)(p:P.underlying t=some (.slice e))(q:sJ P u e)(hi:P.info? e=some i){x:Value}{n:Nat}{news:List Value}
  (f:xH P w i.size x n news) (g sLen sCap:Nat) (cur:Array Value) (o:w.heap[g]? =some (.cells cur e (0,0))) (a:sLen+n<=sCap) (d:sLen*i.size+news.length<=cur.size):
  (Builtin.append_ #[t,u] ty #[.slice (some ⟨g,0,none⟩) sLen sCap,x]).run P w=
   .ok (.slice (some ⟨g,0,none⟩) (sLen+n) sCap) (w.setRow g (cur.toList.take (sLen*i.size)++news++cur.toList.drop (sLen*i.size+news.length)).toArray):=by
 obtain⟨h,k,r,l⟩:=f
 have c:=run_storeCells_at P g (sLen*i.size) e news 0 cur w o (by simpa using d) l
 simp only[fA] at c
 rcases q with b|b<;>simp[Builtin.append_,run_underlying p,run_underlying b,sizeOf,typeInfo,hi,h,a,k,wQ,c]
theorem TB(w:World)(t u ty e:TypeId)(i:TypeInfo)(f:P.underlying t=some (.slice e))(g:sJ P u e)(hi:P.info? e=some i){x:Value}{news:List Value}
  (b:xH P w i.size x 0 news):(Builtin.append_ #[t,u] ty #[.slice none 0 0,x]).run P w= .ok (.slice none 0 0) w:=by
 obtain⟨c,d,h,k⟩:=b
 rcases g with a|a<;>simp[Builtin.append_,run_underlying f,run_underlying a,sizeOf,typeInfo,hi,c,d]
theorem TG(w:World)(t u ty e:TypeId)(i:TypeInfo)(z:Value)(s:P.underlying t=some (.slice e))(v:sJ P u e)(hi:P.info? e=some i)(y:i.zero=some z){x:Value}{n:Nat}{news:List Value}
  (f:xH P w i.size x n news) (base:Option Addr) (sLen sCap:Nat) (olds:List Value)
  (d:∀w':World,Step w w'->w'.heap=w.heap->(Builtin.firstCells i.size sLen (.slice base sLen sCap)).run P w'= .ok olds.toArray w')
  (hsrc':∀w':World,Step w w'->w'.heap=w.heap->(Builtin.firstCells i.size n x).run P w'= .ok news.toArray w')
  (o:sCap<sLen+n) (k:(sLen+n)*i.bytes<=140737488355328) (g:sLen+n<=maxLen):
  (Builtin.append_ #[t,u] ty #[.slice base sLen sCap,x]).run P w=
   .ok (.slice (some ⟨w.heap.size,0,none⟩) (sLen+n) (grownCap w (sLen+n) sCap e))
    (w.drew.alloc (.cells ((olds++news).toArray++Builtin.zeroCells z.cells (grownCap w (sLen+n) sCap e-(sLen+n))) e)):=by
 obtain⟨h,A,B,D⟩:=f
 have p:¬(sLen+n<=sCap):=by omega
 have h63':¬(9223372036854775807<(sLen:Int)+(n:Int)):=by simp only[maxLen] at g;omega
 have l:=growslice_fits (need:=sLen+n) (old:=sCap) (bytes:=i.bytes) o k
 have hfit':¬(281474976710656<Builtin.nextslicecap (sLen+n) sCap*i.bytes):=by omega
 have c:IntKind.i64.max=9223372036854775807:=by decide
 have q:=d w.drew ⟨⟨rfl,rfl⟩,rfl,mK⟩ rfl
 have r:=hsrc' w.drew ⟨⟨rfl,rfl⟩,rfl,mK⟩ rfl
 have a:(Question.appendCap (sLen+n) sCap e).forced=false:=rfl
 rcases v with b|b<;>
  simp[Builtin.append_,run_underlying s,run_underlying b,sizeOf,typeInfo,zeroValue,hi,y,h,p,h63',hfit',c,a,q,r,newRow,grownCap]<;>(congr 2;apply Array.ext';simp)
def cP{α:Type}(by_:Nat)(l k:List α):Option (List α):=if(l.length+k.length)*by_<=140737488355328/\l.length+k.length<=maxLen then some (l++k) else none
theorem RepS.of_cells{α:Type}{c:Codec α}{m:Mem}{b cap:Nat}{l:List α}{cs:List Value}(d:l.length<=cap)(e:cap<=maxLen)
  (f:∀i x,l[i]? =some x->c.rep m x ((cs.drop (i*c.sz)).take c.sz)) (g:MRow m b 0 cs):RepS c m (some ⟨b,0,none⟩) cap l:=by
 refine⟨d,e,.inl rfl,fun i x h=>⟨_,f i x h,?_⟩⟩
 intro j v a
 rw[List.getElem?_take] at a
 split at a
 .rw[List.getElem?_drop] at a
  have:=g _ v a
  simp only[kO] at this ⊢
  exact this
 cases a
theorem RepS.cellsA{α:Type}{c:Codec α}{m:Mem}{a:Option Addr}{cap:Nat}{l:List α}(h:RepS c m a cap l):
  ∃cs,cs.length=l.length*c.sz/\(∀v∈cs,v.oneCell'=true)/\(∀p,a=some p->MRow m p.block p.off cs)/\∀i x,l[i]? =some x->c.rep m x ((cs.drop (i*c.sz)).take c.sz):=by
 cases a with
 |none=>
  obtain⟨d,_,b⟩:=h
  have:l=[]:=jY (by simp only at b;omega)
  subst this
  exact⟨[],by simp,by simp,by simp,by simp⟩
 |some p=>
  obtain⟨cs,d,e,b,f⟩:=h.cells
  exact⟨cs,d,e,fun q g=>by cases g;exact b,f⟩
theorem Inv.cell{m:Mem}{w:World}(h:Inv m w){b o:Nat}{v:Value}(g:m.cell b o=some v):w.cell? ⟨b,o,none⟩=some v:=by
 obtain⟨c,e,f,a,d⟩:=h.1 b o v g
 simp[World.cell?,a,d]
theorem XS{m:Mem}{w:World}(hi:Inv m w){a:Option Addr}{n cap sz:Nat}{cs:List Value}(f:cs.length=n*sz)(g:∀p,a=some p->(p.spot=none\/cs=[])/\MRow m p.block p.off cs)(e:a=none->cs=[]):
  (Builtin.firstCells sz n (.slice a n cap)).run P w= .ok cs.toArray w:=by
 cases a with
 |none=>rw[e rfl];simp[Builtin.firstCells]
 |some p=>
  obtain⟨b,d⟩:=g p rfl
  exact run_firstCells_some w sz n p n cap cs f fun j v c=>by
   rcases b with b|b
   .rw[HA b];exact hi.cell (d j v c)
   subst b;simp at c
theorem RepS.none_nil{α:Type}{c:Codec α}{m:Mem}{cap:Nat}{l:List α}(h:RepS c m none cap l):l=[]/\cap=0:=by
 obtain⟨b,_,a⟩:=h
 simp only at a
 exact⟨jY (by omega),a⟩
theorem RepS.spot{α:Type}{c:Codec α}{m:Mem}{p:Addr}{cap:Nat}{l:List α}(h:RepS c m (some p) cap l)(a:l≠[]):p.spot=none:=h.2.2.1.resolve_right a
def Gives{α:Type}(P:Program)(c:Codec α)(m:Mem)(x:Value)(k:List α):Prop:=
 ∃cs,(∀w:World,Inv m w->xH P w c.sz x k.length cs)/\(∀i y,k[i]? =some y->c.rep m y ((cs.drop (i*c.sz)).take c.sz))
theorem RepS.src{α:Type}{c:Codec α}{m:Mem}{a:Option Addr}{cap:Nat}{l:List α}(h:RepS c m a cap l):Gives P c m (.slice a l.length cap) l:=by
 obtain⟨cs,b,d,f,g⟩:=h.cellsA
 refine⟨cs,fun w hi=>⟨by simp[Builtin.lenOf],XS hi b (fun p n=> ?_) (fun k=> ?_),b,d⟩,g⟩
 .subst n;exact⟨h.2.2.1.imp id (fun e=>by subst e;exact jY (by simpa using b)),f p rfl⟩
 subst k;obtain⟨rfl,rfl⟩:=h.none_nil;exact jY (by simpa using b)
theorem qJo{α:Type}{c:Codec α}{m:Mem}{l k:List α}{a b:List Value}(f:a.length=l.length*c.sz)
  (g:∀i x,l[i]? =some x->c.rep m x ((a.drop (i*c.sz)).take c.sz)) (h:∀i x,k[i]? =some x->c.rep m x ((b.drop (i*c.sz)).take c.sz)):
  ∀i x,(l++k)[i]? =some x->c.rep m x (((a++b).drop (i*c.sz)).take c.sz):=by
 intro i x d
 rw[List.getElem?_append] at d
 split at d
 .rename_i hi
  have e:i*c.sz+c.sz<=a.length:=by
   rw[f]
   calc i*c.sz+c.sz=(i+1)*c.sz:=by rw[kS,hH]
    _<=l.length*c.sz:=kY _ hi
  have:((a++b).drop (i*c.sz)).take c.sz=(a.drop (i*c.sz)).take c.sz:=by
   rw[gG (by omega),kU (by simp;omega)]
  rw[this];exact g i x d
 rename_i hi
 have e:a.length<=i*c.sz:=by rw[f];exact kY _ (by omega)
 have:(a++b).drop (i*c.sz)=b.drop ((i-l.length)*c.sz):=by
  rw[hF,jW e,jQ,f,Nat.sub_mul]
 rw[this];exact h _ x d
theorem XW{m:Mem}{w:World}(hi:Inv m w){b:Nat}{cs:List Value}(h:MRow m b 0 cs){cur:Array Value}{e:TypeId}{f:Nat×Nat}(g:w.heap[b]? =some (.cells cur e f)):cur.toList.take cs.length=cs:=by
 apply fO
 intro j
 rw[List.getElem?_take]
 by_cases hj:j<cs.length
 .rw[if_pos hj]
  have:=h j cs[j] (by simp[hj])
  obtain⟨c,e',f',a,d⟩:=hi.1 _ _ _ this
  rw[g] at a
  simp only[jL,Obj.cells.injEq] at a
  obtain⟨rfl,_,_⟩:=a
  simp only[kO] at d
  simp[d,hj]
 rw[if_neg hj];simp[Nat.le_of_not_lt hj]
theorem St.know{m:Mem}{own:List Piece}{w:World}{b:Nat}{cs:List Value}{cur:Array Value}{e:TypeId}{f:Nat×Nat}(h:St m own w)(d:b∉own.filterMap Piece.block)
  (l:w.heap[b]? =some (.cells cur e f)) (g:cur.toList.take cs.length=cs) (c:∀o v,m.cell b o=some v->cs[o]? =some v):
  ∃m',m.le m'/\St m' own w/\MRow m' b 0 cs/\(∀o,cs.length<=o->m'.cell b o=none)/\m'.obj=m.obj/\∀k,k≠b->m'.cell k=m.cell k:=by
 refine⟨m.addCells b (fun o=>cs[o]?),m.le_addCells b _,h.addCells d ?_,?_,?_,rfl,?_⟩
 .intro o v a
  refine⟨cur,e,f,l,?_⟩
  rw[<-g,List.getElem?_take] at a
  split at a
  .simpa using a
  cases a
 .intro j v a
  simp only[Mem.addCells,kO,jJ]
  cases hc:m.cell b j with
  |none=>simp[a]
  |some u=>have:=c j u hc;rw[a] at this;simp_all
 .intro o a
  simp only[Mem.addCells,jJ]
  cases hc:m.cell b o with
  |none=>simp[a]
  |some u=>
   have:=c o u hc
   have n:=(List.getElem?_eq_some_iff.1 this).1
   omega
 intro k a;funext o;simp[Mem.addCells,a]
theorem qFk{α:Type}{c:Codec α}{m:Mem}{own:List Piece}{w:World}{t u ty e by_:Nat}(b2:sD P t=some (e,c.sz,by_,c.sz))(hu:sJ P u e)
  {a:Option Addr} {cap:Nat} {l k r:List α} {x:Value} (Y:St m (.room a l.length cap e c.sz::own) w) (hr:RepS c m a cap l)
  (hx:Gives P c m x k)
  (M:cP by_ l k=some r):
  ∃a' cap' m' w',(Builtin.append_ #[t,u] ty #[.slice a l.length cap,x]).run P w= .ok (.slice a' r.length cap') w'/\m.le m'/\St m' (.room a' r.length cap' e c.sz::own) w'/\RepS c m' a' cap' r:=by
 obtain⟨ht,i,z,hi,hz,R,b8,c1⟩:=NI b2
 unfold cP at M
 split at M
 .rename_i Z
  simp only[jL] at M
  subst M
  obtain⟨Z,b5⟩:=Z
  have s:=Y.inv
  obtain⟨f,a5,b4⟩:=hx
  have U:=a5 w s
  obtain⟨d,K,c2,b9,b3⟩:=hr.cellsA
  have b6:f.length=k.length*c.sz:=U.2.2.1
  have a0:(d++f).length=(l++k).length*c.sz:=by simp[K,b6,kS]
  have a4:∀m',m.le m'->∀i y,(l++k)[i]? =some y->c.rep m' y (((d++f).drop (i*c.sz)).take c.sz):=fun m' D=>
   qJo K (fun i y hy=>c.mono _ _ _ _ D (b3 i y hy)) (fun i y hy=>c.mono _ _ _ _ D (b4 i y hy))
  have H:=Y.tail
  -- a new block
  have out:cap<l.length+k.length->(∀w':World,Step w w'->w'.heap=w.heap->(Builtin.firstCells i.size l.length (.slice a l.length cap)).run P w'= .ok d.toArray w')->
    ∃a' cap' m' w',(Builtin.append_ #[t,u] ty #[.slice a l.length cap,x]).run P w= .ok (.slice a' (l++k).length cap') w'/\m.le m'/\St m' (.room a' (l++k).length cap' e c.sz::own) w'/\RepS c m' a' cap' (l++k):=by
   intro E a8
   have hinv':∀w':World,Step w w'->w'.heap=w.heap->Inv m w':=fun w' M hw=>s.keep M (fun b _ _=>by rw[hw])
   have A:=TG w t u ty e i z ht hu hi hz (n:=k.length) (news:=f) (by rw[R];exact U) a l.length cap d a8
    (fun w' M hw=>by rw[R];exact(a5 w' (hinv' w' M hw)).2.1) E (by rw[b8];exact Z) b5
   generalize hgc:grownCap w (l.length+k.length) cap e=gc at A
   have a1:l.length+k.length<=gc:=hgc▸grownCap_ge _ _ _ _
   have a6:gc<=maxLen:=hgc▸grownCap_le_maxLen _ _ _ _ b5
   generalize hcur:(d++f).toArray++Builtin.zeroCells z.cells (gc-(l.length+k.length))=cur at A
   have a7:cur.size=gc*c.sz:=by
    rw[<-hcur]
    simp only[dD,dB,size_zeroCells,c1,a0,jC,<-kS]
    congr 1;omega
   have B:=H.alloc (w':=w.drew.alloc (.cells cur e)) (o:= .cells cur e) ⟨⟨rfl,rfl⟩,rfl,mK⟩ rfl
   have b0:cur.toList.take (d++f).length=d++f:=by rw[<-hcur,Array.toList_append,hJ,dE]
   have V:=H.fresh_free
   obtain⟨m',D,hst',a3,a9,a2,S⟩:=St.know (b:=w.heap.size) B.tail (B.head_ne rfl) B.head.1 b0 (fun o v G=>by rw[V.1 o] at G;cases G)
   refine⟨some ⟨w.heap.size,0,none⟩,gc,m',w.drew.alloc (.cells cur e),by rw[A,jC],D,?_,RepS.of_cells (by simpa using a1) a6 (a4 m' D) a3⟩
   refine hst'.cons ⟨rfl,rfl,by simpa using a1,a6,⟨cur,B.head.1,a7⟩,?_,?_⟩ ?_
   .intro o ho;exact a9 o (by rw[a0];exact ho)
   .rw[a2];exact V.2
   intro b F
   simp only[Piece.block,gO,jL] at F
   subst F
   exact B.head_ne rfl
  cases a with
  |none=>
   obtain⟨rfl,rfl⟩:=hr.none_nil
   have B:d=[]:=jY (by simpa using K)
   subst B
   by_cases hk:k.length=0
   .have V:k=[]:=jY hk
    subst V
    refine⟨none,0,m,w,?_,m.le_refl,Y,hr⟩
    have:=TB w t u ty e i ht hu hi (x:=x) (news:=f) (by rw[R];exact U)
    simpa using this
   exact out (by simp;omega) (fun w' _ _=>by simp[Builtin.firstCells])
  |some p=>
   obtain⟨h1,h2,h3,h4,⟨cur,h5,h6⟩,h7,h8⟩:=Y.head
   obtain⟨g,off,spot⟩:=p
   simp only at h1 h2 h5 h7 h8
   subst h1;subst h2
   have B:=b9 _ rfl
   simp only at B
   by_cases hroom:l.length+k.length<=cap
   .have b1:l.length*i.size+f.length<=cur.size:=by rw[b6,h6,R,<-kS];exact kY _ hroom
    have A:=TK w t u ty e i ht hu hi (x:=x) (n:=k.length) (news:=f) (by rw[R];exact U) g l.length cap cur h5 hroom b1
    rw[R,<-K] at A
    rw[XW s B h5] at A
    generalize hw':w.setRow g (d++f++cur.toList.drop (d.length+f.length)).toArray=w' at A
    have a1:w'.heap[g]? =some (.cells (d++f++cur.toList.drop (d.length+f.length)).toArray e (0,0)):=by rw[<-hw'];exact setRow_heap w g cur _ e _ h5
    have S:∀b,b≠g->w'.heap[b]? =w.heap[b]? :=fun b F=>by rw[<-hw'];exact setRow_other w g b _ F
    have a7:(d++f++cur.toList.drop (d.length+f.length)).toArray.size=cap*c.sz:=by
     simp only[dB,jC,kW,Array.length_toList]
     have:l.length*c.sz+k.length*c.sz<=cap*c.sz:=by rw[<-kS];exact kY _ hroom
     omega
    have a8:=Y.head_ne (b:=g) rfl
    have b7:St m own w':=by
     refine⟨?_,fun q hq=>Piece.holds_keep (H.2.1 q hq) (fun b F=>S b ?_),H.2.2⟩
     .refine⟨?_,?_,s.2.2.trans (by rw[<-hw'];exact⟨⟨rfl,rfl⟩,rfl,mK⟩)⟩
      .intro b o v G
       by_cases F:b=g
       .subst F
        refine⟨_,e,(0,0),a1,?_⟩
        by_cases ho:o<l.length*c.sz
        .obtain⟨cc,e',f',V,a6⟩:=s.1 b o v G
         rw[h5] at V
         simp only[jL,Obj.cells.injEq] at V
         obtain⟨rfl,_,_⟩:=V
         have E:o<d.length:=by rw[K];exact ho
         have b0:=XW s B h5
         have:d[o]? =some v:=by
          rw[<-b0,List.getElem?_take,if_pos E]
          simpa using a6
         simp only[List.getElem?_toArray,jE,List.getElem?_append,if_pos E]
         exact this
        rw[h7 o (by omega)] at G;cases G
       obtain⟨cc,e',f',V,a6⟩:=s.1 b o v G
       exact⟨cc,e',f',by rw[S b F];exact V,a6⟩
      intro b y hy
      have:b≠g:=by rintro rfl;rw[h8] at hy;cases hy
      rw[S b this];exact s.2.1 b y hy
     rintro rfl;exact a8 (CS.2 ⟨q,hq,F⟩)
    obtain⟨m',D,hst',a3,a9,a2,_⟩:=St.know (b:=g) (cs:=d++f) b7 a8 a1 (by rw[hJ,dE]) (fun o v G=>by
     by_cases ho:o<l.length*c.sz
     .have E:o<d.length:=by rw[K];exact ho
      have:=B o d[o] (by simp[E])
      simp only[kO] at this
      rw[this] at G
      simp only[List.getElem?_append,if_pos E]
      rw[<-G];simp[E]
     rw[h7 o (by omega)] at G;cases G)
    refine⟨some ⟨g,0,none⟩,cap,m',w',by rw[A,jC],D,?_,RepS.of_cells (by simpa using hroom) h4 (a4 m' D) a3⟩
    refine hst'.cons ⟨rfl,rfl,by simpa using hroom,h4,⟨_,a1,a7⟩,?_,?_⟩ ?_
    .intro o ho;exact a9 o (by rw[a0];exact ho)
    .rw[a2];exact h8
    intro b F
    simp only[Piece.block,gO,jL] at F
    subst F;exact a8
   exact out (by omega) (fun w' M hw=>by
    have hinv':Inv m w':=s.keep M (fun b _ _=>by rw[hw])
    rw[R]
    exact XS hinv' K (fun p A=>by cases A;exact⟨.inl rfl,B⟩) (fun h=>by cases h))
 cases M
end
def aV(k:IntKind):Codec Int where
 sz:=1
 pos:=Nat.one_pos
 rep _ x cs:=cs=[.int k x]
 len:=by rintro _ _ _ rfl;rfl
 one:=by rintro _ _ _ rfl v a;simp at a;subst a;rfl
 mono:=fun _ _ _ _ _ h=>h
def iX:Codec UInt8 where
 sz:=1
 pos:=Nat.one_pos
 rep _ x cs:=cs=[.int .u8 (x.toNat:Int)]
 len:=by rintro _ _ _ rfl;rfl
 one:=by rintro _ _ _ rfl v a;simp at a;subst a;rfl
 mono:=fun _ _ _ _ _ h=>h
def qPt:Codec Bool where
 sz:=1
 pos:=Nat.one_pos
 rep _ x cs:=cs=[.bool x]
 len:=by rintro _ _ _ rfl;rfl
 one:=by rintro _ _ _ rfl v a;simp at a;subst a;rfl
 mono:=fun _ _ _ _ _ h=>h
def aH:Codec BA where
 sz:=1
 pos:=Nat.one_pos
 rep _ x cs:=cs=[.string x]
 len:=by rintro _ _ _ rfl;rfl
 one:=by rintro _ _ _ rfl v a;simp at a;subst a;rfl
 mono:=fun _ _ _ _ _ h=>h
def sK{α β:Type}(a:Codec α)(b:Codec β):Codec (α×β) where
 sz:=a.sz+b.sz
 pos:=Nat.lt_of_lt_of_le a.pos (Nat.le_add_right ..)
 rep m x cs:=∃c d,cs=c++d/\a.rep m x.1 c/\b.rep m x.2 d
 len:=by rintro m x cs ⟨c,d,rfl,e,f⟩;rw[jC,a.len _ _ _ e,b.len _ _ _ f]
 one:=by
  rintro m x cs ⟨c,d,rfl,e,f⟩ v g
  rcases gP.1 g with g|g
  .exact a.one _ _ _ e v g
  exact b.one _ _ _ f v g
 mono:=by rintro m m' x cs g ⟨c,d,rfl,e,f⟩;exact⟨c,d,rfl,a.mono _ _ _ _ g e,b.mono _ _ _ _ g f⟩
def EC{α:Type}(c:Codec α):Codec (List α) where
 sz:=1
 pos:=Nat.one_pos
 rep m l cs:=∃a cap,cs=[.slice a l.length cap]/\RepS c m a cap l
 len:=by rintro _ _ _ ⟨a,cap,rfl,_⟩;rfl
 one:=by rintro _ _ _ ⟨a,cap,rfl,_⟩ v b;simp at b;subst b;rfl
 mono:=by rintro m m' x cs b ⟨a,cap,rfl,h⟩;exact⟨a,cap,rfl,h.mono b⟩
theorem iD{α:Type}{c:Codec α}{m:Mem}{a:Option Addr}{cap:Nat}{l:List α}(h:RepS c m a cap l):(EC c).rep m l [.slice a l.length cap]:=⟨a,cap,rfl,h⟩
def RepAll{α:Type}(c:Codec α)(m:Mem):List α->List Value->Prop
 |[],cs=>cs=[]
 |x::l,cs=>∃a b,cs=a++b/\c.rep m x a/\RepAll c m l b
theorem RepAll.len{α:Type}{c:Codec α}{m:Mem}:∀{l:List α} {cs:List Value},RepAll c m l cs->cs.length=l.length*c.sz
 |[],cs,h=>by simp[RepAll] at h;simp[h]
 |x::l,cs,h=>by
  obtain⟨d,e,rfl,a,b⟩:=h
  rw[jC,c.len _ _ _ a,b.len,jD,kS,hH,fS]
theorem RepAll.rep{α:Type}{c:Codec α}{m:Mem}:∀{l:List α} {cs:List Value},RepAll c m l cs->∀i x,l[i]? =some x->c.rep m x ((cs.drop (i*c.sz)).take c.sz)
 |[],_,_=>by simp
 |y::l,cs,h=>by
  obtain⟨g,d,rfl,f,k⟩:=h
  intro i x b
  have a:=c.len _ _ _ f
  cases i with
  |zero=>simp at b;subst b;simp[<-a];exact f
  |succ i=>
   have e:(g++d).drop ((i+1)*c.sz)=d.drop (i*c.sz):=by
    rw[hF,jW (by rw[a,kS];omega),jQ,a,kS,hH,hU]
   rw[e];exact k.rep i x (by simpa using b)
def oH(P:Program)(t:TypeId)(cs:List Value):Option Value:=
 match P.underlying t with
 |some (.struct _)|some (.array _ _)=>match P.info? t with
  |some i=>bif Nat.ble i.size cs.length then some (.agg (cs.take i.size).toArray) else none
  |none=>none
 |some _=>cs.head?
 |none=>none
def LU:TypeDesc->Bool
 | .struct _=>true
 | .array _ _=>true
 |_=>false
theorem zD{P:Program}{w:World}{t:TypeId}{b o:Nat}{cs:List Value}{v:Value}(g:∀j u,cs[j]? =some u->w.cell? ⟨b,o+j,none⟩=some u)(h:oH P t cs=some v):
  (loadVar t ⟨b,o,none⟩).run P w= .ok v w:=by
 have agg:∀d,P.underlying t=some d->(isAgg t).run P w= .ok (LU d) w:=by
  intro d a;unfold isAgg;cases d<;>simp[run_underlying a,LU]
 have big:∀d,P.underlying t=some d->LU d=true->(match P.info? t with
  |some i=>bif Nat.ble i.size cs.length then some (Value.agg (cs.take i.size).toArray) else none
  |none=>none)=some v->(loadVar t ⟨b,o,none⟩).run P w= .ok v w:=by
  intro d a l h
  cases hi:P.info? t with
  |none=>simp[hi] at h
  |some i=>
   simp only[hi] at h
   cases e:Nat.ble i.size cs.length with
   |false=>simp[e] at h
   |true=>
    simp[e] at h
    subst h
    have hle':=gA e
    have k:=run_loadCells_list (P:=P) w ⟨b,o,none⟩ (cs.take i.size) (fun j u f=>by
     rw[wQ]
     rw[List.getElem?_take] at f
     split at f
     .exact g j u f
     cases f)
    have:(cs.take i.size).length=i.size:=by simp;omega
    rw[this] at k
    have c:=agg d a
    rw[l] at c
    simp[loadVar,c,sizeOf,typeInfo,hi,k]
 unfold oH at h
 split at h
 .rename_i a;exact big _ a rfl h
 .rename_i a;exact big _ a rfl h
 .rename_i d hn1 hn2 a
  have c:=agg d a
  have e:LU d=false:=by
   cases d<;>first|rfl|exact(hn1 _ rfl).elim|exact(hn2 _ _ rfl).elim
  rw[e] at c
  have f:cs[0]? =some v:=by rw[List.head?_eq_getElem?] at h;exact h
  have:=g 0 v f
  simp only[fA] at this
  simp[loadVar,c,this]
 cases h
section
variable {P:Program} {n:Fr} {ops:Array Oper} {Q:Exit->Act->World->Prop} {i d:Nat} {L:bJ} {w:World} {m:Mem} {own:List Piece} {N:bJ->World->Prop}
theorem cB{L:bJ}{x:Operand}{v:Value}(h:bL L x=some v):lU L x=v:=by simp[lU,h]
theorem wM{t:TypeId}{x:Operand}{b o:Nat}{cs:List Value}(v:Value)(f:cL ops L i=some (some d,.load t x))(c:Nat.blt d n=true)
  (r:bL L x=some (.pointer (some ⟨b,o,none⟩))) (a:St m own w) (k:MRow m b o cs) (p:oH P t cs=some v)
  (h:N ((d,v)::L) w):dN P n ops Q i N L w:=by
 refine lL f c (fun q g=> ?_) h
 have e:=zD (P:=P) (w:=w) (t:=t) (b:=b) (o:=o) (cs:=cs) (v:=v) (fun j u l=>a.inv.cell (k j u l)) p
 simp[execOp,g,Instr.loadAt,cB r,Instr.sureAddr,e]
theorem CJ{t e:TypeId}{x:Operand}{b o:Nat}{c:Array Value}{f:Nat×Nat}(v:Value)(p:cL ops L i=some (some d,.load t x))(k:Nat.blt d n=true)
  (z:bL L x=some (.pointer (some ⟨b,o,none⟩))) (r:Piece.holds m w (.blk b (.cells c e f))) (y:oH P t (c.toList.drop o)=some v)
  (h:N ((d,v)::L) w):dN P n ops Q i N L w:=by
 refine lL p k (fun q s=> ?_) h
 have g:=r.1
 have l:=zD (P:=P) (w:=w) (t:=t) (b:=b) (o:=o) (cs:=c.toList.drop o) (v:=v) (fun j u a=>by
  rw[List.getElem?_drop] at a
  simp only[World.cell?,g]
  simpa using a) y
 simp[execOp,s,Instr.loadAt,cB z,Instr.sureAddr,l]
def LQ:List Value->Bool
 |[]=>true
 |v::l=>v.oneCell'&&LQ l
theorem UT{l:List Value}(h:LQ l=true):∀v∈l,v.oneCell'=true:=by
 induction l with
 |nil=>simp
 |cons u l b=>
  simp only[LQ,jM] at h
  intro v a
  rcases jR.1 a with rfl|a
  .exact h.1
  exact b h.2 v a
def wT(P:Program)(t:TypeId)(v:Value)(o n:Nat):Bool:=
 match P.info? t with
 |some i=>Nat.beq v.cells.size i.size&&Nat.ble (o+v.cells.size) n&&LQ v.cells.toList
 |none=>false
theorem KM{t e:TypeId}{x y:Operand}{b o:Nat}{c c':Array Value}{v:Value}(s:cL ops L i=some (none,.store t x y))
  (z:bL L x=some (.pointer (some ⟨b,o,none⟩))) (A:bL L y=some v) (f:St m (.blk b (.cells c e (0,0))::own) w) (d:wT P t v o c.size=true)
  (hc':(c.toList.take o++v.cells.toList++c.toList.drop (o+v.cells.toList.length)).toArray=c')
  (h:∀w',St m (.blk b (.cells c' e (0,0))::own) w'->N L w'):dN P n ops Q i N L w:=by
 unfold wT at d
 cases hi:P.info? t with
 |none=>simp[hi] at d
 |some inf=>
  simp only[hi,jM] at d
  obtain⟨⟨g,l⟩,p⟩:=d
  have h1':=fH g
  have h2':=gA l
  have a:=run_storeCells_at P b o e v.cells.toList 0 c w f.head.1 (by simpa using h2') (UT p)
  simp only[fA] at a
  rw[hc'] at a
  refine zM s (fun q u=> ?_) (h (w.setRow b c') (f.set ⟨⟨rfl,rfl⟩,rfl,mK⟩ (setRow_heap w b c c' e _ f.head.1) (fun k _ r=>setRow_other w b k _ r)))
  simp[execOp,u,Instr.storeAt,cB z,cB A,Instr.sureAddr,storeVar,sizeOf,typeInfo,hi,h1',a]
theorem UI{e:TypeId}{x:Operand}(v:Value)(f:cL ops L i=some (some d,.box e x))(c:Nat.blt d n=true)(k:bL L x=some v)(a:St m own w)
  (h:∀b w',St m (.blk b (.cells v.cells e (0,0))::own) w'->N ((d,.pointer (some ⟨b,0,none⟩))::L) w'):dN P n ops Q i N L w:=by
 refine lL (w':=w.alloc (.cells v.cells e)) f c (fun q g=> ?_) (h w.heap.size _ (a.alloc ⟨⟨rfl,rfl⟩,rfl,mK⟩ rfl))
 simp[execOp,g,Instr.box,cB k,newVar,newRow]
theorem St.settle{b:Nat}{c:Array Value}{e:TypeId}{f:Nat×Nat}(h:St m (.blk b (.cells c e f)::own) w):∃m',m.le m'/\St m' own w/\MRow m' b 0 c.toList:=by
 obtain⟨m',d,g,k,_⟩:=St.know (cs:=c.toList) h.tail (h.head_ne rfl) h.head.1 (gW (jT _)) (fun o v a=>by rw[h.head.2.1 o] at a;cases a)
 exact⟨m',d,g,k⟩
theorem qLl{e:TypeId}{x:Operand}(v:Value)(l:cL ops L i=some (some d,.box e x))(k:Nat.blt d n=true)(p:bL L x=some v)(a:St m own w)
  (h:∀b m' w',m.le m'->St m' own w'->MRow m' b 0 v.cells.toList->N ((d,.pointer (some ⟨b,0,none⟩))::L) w'):dN P n ops Q i N L w:=by
 refine UI v l k p a (fun b w' o=> ?_)
 obtain⟨m',c,f,g⟩:=o.settle
 exact h b m' w' c f g
def qAf(P:Program)(e:TypeId):Option Value:=(P.info? e).bind (·.zero)
theorem qHp{e:TypeId}(v:Value)(f:cL ops L i=some (some d,.alloc e))(c:Nat.blt d n=true)(k:qAf P e=some v)(a:St m own w)
  (h:∀b w',St m (.blk b (.cells v.cells e (0,0))::own) w'->N ((d,.pointer (some ⟨b,0,none⟩))::L) w'):dN P n ops Q i N L w:=by
 obtain⟨inf,hi,hz'⟩:=jP.1 k
 refine lL (w':=w.alloc (.cells v.cells e)) f c (fun q g=> ?_) (h w.heap.size _ (a.alloc ⟨⟨rfl,rfl⟩,rfl,mK⟩ rfl))
 simp[execOp,g,Instr.alloc,zeroValue,typeInfo,hi,hz',newVar,newRow]
def idx{α:Type}(l:List α)(i:Int):Option α:=if 0<=i then l[i.toNat]? else none
def qR(P:Program)(t:TypeId):Option (TypeId×Nat):=
 match P.underlying t with
 |some (.slice e)=>(P.info? e).map fun i=>(e,i.size)
 |_=>none
theorem CF{t e sz:Nat}(h:qR P t=some (e,sz)):P.underlying t=some (.slice e)/\∃inf,P.info? e=some inf/\inf.size=sz:=by
 unfold qR at h
 split at h
 .rename_i e' he
  cases hi:P.info? e' with
  |none=>simp[hi] at h
  |some inf=>simp[hi] at h;obtain⟨rfl,a⟩:=h;exact⟨he,inf,hi,a⟩
 cases h
theorem qHn{α:Type}{t e:TypeId}{x y:Operand}(c:Codec α){a:Option Addr}{cap:Nat}{l:List α}{k:IntKind}{ix:Int}{z:α}(E:cL ops L i=some (some d,.indexAddr t x y))(B:Nat.blt d n=true)
  (G:bL L x=some (.slice a l.length cap)) (H:bL L y=some (.int k ix)) (hi:qR P t=some (e,c.sz)) (r:RepS c m a cap l) (g:idx l ix=some z)
  (h:∀b o cs,c.rep m z cs->MRow m b o cs->N ((d,.pointer (some ⟨b,o,none⟩))::L) w):dN P n ops Q i N L w:=by
 obtain⟨s,inf,u,v⟩:=CF hi
 unfold idx at g
 split at g
 .rename_i h0
  have f:ix.toNat<l.length:=(List.getElem?_eq_some_iff.1 g).1
  cases a with
  |none=>obtain⟨rfl,_⟩:=r.none_nil;simp at f
  |some p=>
   obtain⟨cs,A,D⟩:=r.2.2.2 _ _ g
   refine lL E B (fun q F=> ?_) (h p.block (p.off+ix.toNat*c.sz) cs A D)
   have hlt':ix<(l.length:Int):=by omega
   simp[execOp,F,Instr.indexAt,cB G,cB H,asIntOf,run_underlying s,h0,hlt',sizeOf,typeInfo,u,v,HA (r.spot (fun e=>by rw[e] at f;simp at f))]
 cases g
theorem qGc{α:Type}{t u e by_:Nat}{x y:Operand}(c:Codec α){a:Option Addr}{cap:Nat}{l k r:List α}{v:Value}
  (A:cL ops L i=some (some d,.call {callee:= .builtin .append,args:= #[x,y],argTypes:= #[t,u]})) (s:Nat.blt d n=true)
  (F:bL L x=some (.slice a l.length cap)) (G:bL L y=some v) (p:St m (.room a l.length cap e c.sz::own) w) (hi:sD P t=some (e,c.sz,by_,c.sz)) (E:sJ P u e)
  (B:RepS c m a cap l) (z:Gives P c m v k) (D:cP by_ l k=some r)
  (h:∀a' cap' m' w',m.le m'->St m' (.room a' r.length cap' e c.sz::own) w'->RepS c m' a' cap' r->N ((d,.slice a' r.length cap')::L) w'):dN P n ops Q i N L w:=by
 refine zL (v:=undef) (w':=w) A s (fun o q=> ?_)
 obtain⟨a',cap',m',w',f,g,hst',b⟩:=qFk (P:=P) (ty:=o.type) hi E p B z D
 refine⟨_,w',?_,h a' cap' m' w' g hst' b⟩
 simp[execOp,q,resolve,invoke,builtin,cB F,cB G,f]
theorem St.nilroom(h:St m own w)(e sz:Nat):St m (.room none 0 0 e sz::own) w:=h.cons ⟨rfl,rfl⟩ (by simp[Piece.block])
theorem Gives.str(s:BA):Gives P iX m (.string s) s.data.toList:=by
 refine⟨s.data.toList.map fun b=> .int .u8 (b.toNat:Int),fun w _=>⟨?_,?_,?_,?_⟩,?_⟩
 .simp[Builtin.lenOf]
 .have:s.extract 0 s.size=s:=by simp
  simp only[Builtin.firstCells,Sem.run_pure]
  congr 1
  apply Array.ext'
  simp
 .simp[iX]
 .intro v a;simp at a;obtain⟨b,_,rfl⟩:=a;rfl
 intro j x c
 show List.take 1 (List.drop (j*1) _)=_
 rw[Nat.mul_one,<-List.map_drop,<-List.map_take]
 have a:=(List.getElem?_eq_some_iff.1 c).1
 have d:=(List.getElem?_eq_some_iff.1 c).2
 rw[kH a,d]
 rfl
theorem lK{α:Type}{t e:TypeId}{len:Nat}{parts:Array (Nat×Operand)}(c:Codec α){xs:List α}(cs:List Value)(H:cL ops L i=some (some d,.buildSlice t len parts))(G:Nat.blt d n=true)
  (u:∀w:World,(Instr.buildSlice t len (parts.map fun p=>(p.1,lU L p.2))).run P w= .ok (.slice (some ⟨w.heap.size,0,none⟩) len len) (w.alloc (.cells cs.toArray e)))
  (l:len=xs.length) (r:Nat.ble len maxLen=true) (k:St m own w) (s:RepAll c m xs cs)
  (h:∀b m' w',m.le m'->St m' (.room (some ⟨b,0,none⟩) xs.length len e c.sz::own) w'->RepS c m' (some ⟨b,0,none⟩) len xs->N ((d,.slice (some ⟨b,0,none⟩) xs.length len)::L) w'):dN P n ops Q i N L w:=by
 subst l
 have a:=k.alloc (w':=w.alloc (.cells cs.toArray e)) ⟨⟨rfl,rfl⟩,rfl,mK⟩ rfl
 have f:=k.fresh_free
 obtain⟨m',y,B,D,E,F,_⟩:=St.know (cs:=cs) a.tail (a.head_ne rfl) a.head.1 (by simp) (fun o v A=>by rw[f.1 o] at A;cases A)
 have g:=gA r
 refine lL H G (fun q K=> ?_) (h w.heap.size m' _ y (B.cons ⟨rfl,rfl,jT _,g,⟨cs.toArray,a.head.1,by simp[s.len]⟩,?_,?_⟩ ?_) (RepS.of_cells (jT _) g (fun j x M=>c.mono _ _ _ _ y (s.rep j x M)) D))
 .simp[execOp,K,u w]
 .intro o ho';exact E o (by rw[s.len];exact ho')
 .rw[F];exact f.2
 intro b z;simp only[Piece.block,gO,jL] at z;subst z;exact a.head_ne rfl
def OD(P:Program)(t:TypeId)(len:Nat)(parts:List (Nat×Value)):Option (TypeId×List Value):=
 match P.underlying t with
 |some (.slice e)=>match P.info? e with
  |some inf=>bif Nat.ble (len*inf.size) (2^24)&&Nat.blt 0 (len*inf.size) then
   (match inf.zero with
   |some z=>(Instr.fill (fun i=>some (i*inf.size,inf.size)) ((Array.range (len*inf.size)).map (z.cells[· %z.cells.size]!)) parts).map fun a=>(e,a.toList)
   |none=>none) else none
  |none=>none
 |_=>none
theorem lD{t e:TypeId}{len:Nat}{parts:Array (Nat×Value)}{cs:List Value}(h:OD P t len parts.toList=some (e,cs))(w:World):
  (Instr.buildSlice t len parts).run P w= .ok (.slice (some ⟨w.heap.size,0,none⟩) len len) (w.alloc (.cells cs.toArray e)):=by
 unfold OD at h
 split at h
 .rename_i e' he
  split at h
  .rename_i inf hi
   cases b:(Nat.ble (len*inf.size) (2^24)&&Nat.blt 0 (len*inf.size)) with
   |false=>simp[b] at h
   |true=>
    simp only[b,cond_true] at h
    simp only[jM] at b
    have g:=gA b.1
    have k:0<len*inf.size:=by simpa[Nat.blt_eq] using b.2
    have h1':¬(16777216<len*inf.size):=by omega
    have h2':¬(len*inf.size=0):=by omega
    split at h
    .rename_i z hz
     obtain⟨a,f,c⟩:=kT.1 h
     simp only[Prod.mk.injEq] at c
     obtain⟨rfl,rfl⟩:=c
     simp[Instr.buildSlice,run_underlying he,sizeOf,typeInfo,zeroValue,hi,hz,h1',f,newRow]
     intro d;exact absurd d h2'
    cases h
  cases h
 cases h
def nH{α:Type}(l:List α)(lo hi:Int):Option (List α):=if 0<=lo/\lo<=hi/\hi<=l.length then some ((l.take hi.toNat).drop lo.toNat) else none
theorem RepS.sub{α:Type}{c:Codec α}{a:Option Addr}{cap:Nat}{l:List α}(h:RepS c m a cap l){lo hi:Nat}(o:lo<=hi)(g:hi<=l.length):
  RepS c m (if cap=lo then a else a.map (·.add (lo*c.sz))) (cap-lo) ((l.take hi).drop lo)/\((l.take hi).drop lo).length=hi-lo:=by
 have d:((l.take hi).drop lo).length=hi-lo:=by simp;omega
 refine⟨⟨by rw[d];have:=h.1;omega,by have:=h.2.1;omega,?_⟩,d⟩
 cases a with
 |none=>
  obtain⟨rfl,e⟩:=h.none_nil
  have:(if cap=lo then(none:Option Addr) else(none:Option Addr).map (·.add (lo*c.sz)))=none:=by split<;>rfl
  rw[this]
  simp[e]
 |some p=>
  by_cases hl:l=[]
  .subst hl
   have b:lo=0:=by simp at g;omega
   subst b
   simp[Addr.add]
  have f:=h.spot hl
  by_cases e:cap=lo
  .rw[if_pos e]
   refine⟨.inl f,fun j x b=> ?_⟩
   have k:=(List.getElem?_eq_some_iff.1 b).1
   have:=h.1
   omega
  rw[if_neg e]
  simp only[gO]
  rw[HA f]
  refine⟨.inl rfl,fun j x b=> ?_⟩
  rw[List.getElem?_drop,List.getElem?_take] at b
  split at b
  .obtain⟨cs,n,k⟩:=h.2.2.2 _ _ b
   refine⟨cs,n,?_⟩
   rw[gS,<-kS];exact k
  cases b
theorem VV{α:Type}{t e:TypeId}{x:Operand}{lo hi:Option Operand}(c:Codec α){a:Option Addr}{cap:Nat}{l r:List α}{li hix:Int}
  (u:bL L x=some (.slice a l.length cap)) (H:qR P t=some (e,c.sz)) (E:RepS c m a cap l)
  (D:(lo=none/\li=0)\/∃y k,lo=some y/\bL L y=some (.int k li)) (A:(hi=none/\hix=l.length)\/∃y k,hi=some y/\bL L y=some (.int k hix)) (g:nH l li hix=some r):
  ∃v,(∀o:Oper,o.op= .slice t x lo hi none->∀w:World,(execOp (lU L) o).run P w= .ok (.value v) w)/\∃a' cap',v= .slice a' r.length cap'/\RepS c m a' cap' r:=by
 obtain⟨h,inf,n,p⟩:=CF H
 unfold nH at g
 split at g
 .rename_i hb
  obtain⟨z,G,K⟩:=hb
  simp only[jL] at g
  have b:=E.sub (lo:=li.toNat) (hi:=hix.toNat) (by omega) (by omega)
  rw[g] at b
  refine⟨_,fun q s w=> ?_,_,_,rfl,b.1⟩
  have d:hix<=(cap:Int):=by have:=E.1;omega
  have f:0<=hix:=by omega
  have B:li<=max hix 0:=by omega
  rcases D with ⟨rfl,rfl⟩|⟨y,k,rfl,F⟩<;>rcases A with ⟨rfl,rfl⟩|⟨y',k',rfl,hy'⟩
  .simp[execOp,s,Instr.sliceAt,Instr.slice,Instr.sliceBounds,run_underlying h,cB u,sizeOf,typeInfo,n,p] at*
   exact b.2.symm
  .simp[execOp,s,Instr.sliceAt,Instr.slice,Instr.sliceBounds,Instr.sliceBound,asIntOf,run_underlying h,cB u,cB hy',sizeOf,typeInfo,n,p,f,d] at*
   exact b.2.symm
  .have:li<=(l.length:Int):=G
   simp[execOp,s,Instr.sliceAt,Instr.slice,Instr.sliceBounds,Instr.sliceBound,asIntOf,run_underlying h,cB u,cB F,sizeOf,typeInfo,n,p,z,this] at*
   exact b.2.symm
  simp[execOp,s,Instr.sliceAt,Instr.slice,Instr.sliceBounds,Instr.sliceBound,asIntOf,run_underlying h,cB u,cB F,cB hy',sizeOf,typeInfo,n,p,f,d,z,B] at*
  exact b.2.symm
 cases g
theorem KL{α:Type}{t e:TypeId}{x:Operand}{lo hi:Option Operand}(c:Codec α){a:Option Addr}{cap:Nat}{l r:List α}{li hix:Int}
  (s:cL ops L i=some (some d,.slice t x lo hi none)) (p:Nat.blt d n=true) (D:bL L x=some (.slice a l.length cap)) (o:qR P t=some (e,c.sz)) (z:RepS c m a cap l)
  (g:(lo=none/\li=0)\/∃y k,lo=some y/\bL L y=some (.int k li)) (f:(hi=none/\hix=l.length)\/∃y k,hi=some y/\bL L y=some (.int k hix)) (A:nH l li hix=some r)
  (h:∀a' cap',RepS c m a' cap' r->N ((d,.slice a' r.length cap')::L) w):dN P n ops Q i N L w:=by
 obtain⟨v,B,a',cap',rfl,b⟩:=VV (P:=P) (L:=L) c D o z g f A
 exact lL s p (fun q u=>B q u w) (h a' cap' b)
end
end
end Go.Dc
section
namespace Go.Dc
def MB(x y:Int):Option Int:=if y=0 then none else some (x.tmod y)
def aI{σ β:Type}(f:σ->Option (σ⊕β)):Nat->σ->Option β
 |0,_=>none
 |k+1,s=>(f s).bind fun
  | .inl s'=>aI f k s'
  | .inr b=>some b
theorem qGg{σ β:Type}{f:σ->Option (σ⊕β)}{k:Nat}{s:σ}{b:β}(h:aI f (k+1) s=some b):∃c,f s=some c/\(∀s',c= .inl s'->aI f k s'=some b)/\(∀b',c= .inr b'->b'=b):=by
 simp only[aI] at h
 obtain⟨c,d,a⟩:=jP.1 h
 refine⟨c,d,?_,?_⟩
 .rintro s' rfl;exact a
 rintro b' rfl;simpa using a
section
variable {ρ:Option Nat} {P:Program} {n:Fr} {ops:Array Oper} {Q:Exit->Act->World->Prop} {i d:Nat} {L:bJ} {w:World} {m:Mem} {own:List Piece} {N:bJ->World->Prop}
theorem YT{t:Nat}{b:Bool}(e:Bool)(d:look L t=some (.bool e))(f:e=b)(h:WO P n ops Q i ((t,.bool b)::L) w):WO P n ops Q i L w:=by
 intro a g
 refine h a (g.sub ?_)
 intro u v c
 simp only[look] at c
 cases hb:Nat.beq t u with
 |true=>
  simp only[hb,cond_true] at c
  have:=fH hb;subst this
  rw[d,f];exact c
 |false=>simp only[hb,cond_false] at c;exact c
theorem sH{j:Nat}(I:bJ->World->Prop)(a:∀L' w',I L' w'->WO P n ops Q j L' w')(b:(∀L' w',I L' w'->WO P n ops Q j L' w')->WO P n ops Q i L w):WO P n ops Q i L w:=b a
theorem cR{c:Code}(e:Exit)(I:bJ->World->Prop)(b:∀L' w',I L' w'->X n Q e L' w')(a:(∀L' w',I L' w'->X n Q e L' w')->W ρ P n c Q L w):W ρ P n c Q L w:=a b
theorem qKu{t t2:TypeId}{x y:Operand}{k:IntKind}{a b r:Int}(f:cL ops L i=some (some d,.binOp .rem t x y t2))(e:Nat.blt d n=true)(l:bL L x=some (.int k a))(o:bL L y=some (.int k b))
  (c:MB a b=some r) (h:N ((d,.int k r)::L) w):dN P n ops Q i N L w:=by
 unfold MB at c
 split at c
 .cases c
 rename_i hb
 simp only[jL] at c;subst c
 refine lL f e (fun q g=> ?_) h
 simp[execOp,g,cB l,cB o,eqGuard,binOp,Op.intDiv,hb]
def mT(s:BA)(lo hi:Int):Option BA:=if 0<=lo/\lo<=hi/\hi<=s.size then some (s.extract lo.toNat hi.toNat) else none
def eK(s:BA)(i:Int):Option UInt8:=if 0<=i then s[i.toNat]? else none
def cC(s t:BA):Option BA:=if s.size+t.size<=maxLen then some (s++t) else none
def cQ(l:List UInt8):BA:=⟨l.toArray⟩
theorem qEr{t:TypeId}{x y:Operand}{s:BA}{k:IntKind}{ix:Int}{z:UInt8}(c:cL ops L i=some (some d,.index t x y))(b:Nat.blt d n=true)(g:bL L x=some (.string s))(l:bL L y=some (.int k ix))
  (f:P.underlying t=some .string) (a:eK s ix=some z) (h:N ((d,.int .u8 (z.toNat:Int))::L) w):dN P n ops Q i N L w:=by
 unfold eK at a
 split at a
 .rename_i h0
  refine lL c b (fun q e=> ?_) h
  simp[execOp,e,cB g,cB l,Instr.index,asIntOf,run_underlying f,h0,a]
 cases a
theorem qL{t:TypeId}{x:Operand}{lo hi:Option Operand}{s r:BA}{li hix:Int}(B:cL ops L i=some (some d,.slice t x lo hi none))(A:Nat.blt d n=true)(f:bL L x=some (.string s))
  (e:P.underlying t=some .string) (u:(lo=none/\li=0)\/∃y k,lo=some y/\bL L y=some (.int k li)) (o:(hi=none/\hix=s.size)\/∃y k,hi=some y/\bL L y=some (.int k hix)) (b:mT s li hix=some r)
  (h:N ((d,.string r)::L) w):dN P n ops Q i N L w:=by
 unfold mT at b
 split at b
 .rename_i hb
  obtain⟨g,z,l⟩:=hb
  simp only[jL] at b;subst b
  refine lL B A (fun q c=> ?_) h
  have a:0<=hix:=by omega
  have p:li<=max hix 0:=by omega
  rcases u with ⟨rfl,rfl⟩|⟨y,k,rfl,v⟩<;>rcases o with ⟨rfl,rfl⟩|⟨y',k',rfl,hy'⟩
  .simp[execOp,c,Instr.sliceAt,Instr.slice,Instr.sliceBounds,run_underlying e,cB f]
  .simp[execOp,c,Instr.sliceAt,Instr.slice,Instr.sliceBounds,Instr.sliceBound,asIntOf,run_underlying e,cB f,cB hy',a,l]
  .have:li<=(s.size:Int):=z
   simp[execOp,c,Instr.sliceAt,Instr.slice,Instr.sliceBounds,Instr.sliceBound,asIntOf,run_underlying e,cB f,cB v,g,this]
  simp[execOp,c,Instr.sliceAt,Instr.slice,Instr.sliceBounds,Instr.sliceBound,asIntOf,run_underlying e,cB f,cB v,cB hy',a,l,g,p]
 cases b
theorem qLm{t t2:TypeId}{x y:Operand}{a b r:BA}(g:cL ops L i=some (some d,.binOp .add t x y t2))(f:Nat.blt d n=true)(l:bL L x=some (.string a))(o:bL L y=some (.string b))
  (c:cC a b=some r) (h:N ((d,.string r)::L) w):dN P n ops Q i N L w:=by
 unfold cC at c
 split at c
 .rename_i hb
  simp only[jL] at c;subst c
  refine lL g f (fun q k=> ?_) h
  have e:IntKind.i64.max=9223372036854775807:=by decide
  have hb':¬(9223372036854775807<(a.size:Int)+(b.size:Int)):=by simp only[maxLen] at hb;omega
  simp[execOp,k,cB l,cB o,eqGuard,binOp,Op.stringOp,e,hb']
 cases c
def ResAt(P:Program)(w:World)(L:bJ)(rv:ResultVar)(v:Value):Prop:=
 match rv with
 | .tmp t=>look L t=some v
 | .cell a t=>∃b o cs,look L a=some (.pointer (some ⟨b,o,none⟩))/\(∀j u,cs[j]? =some u->w.cell? ⟨b,o+j,none⟩=some u)/\oH P t cs=some v
def ResAll(P:Program)(w:World)(L:bJ):List ResultVar->List Value->Prop
 |[],vs=>vs=[]
 |rv::l,vs=>∃v vs',vs=v::vs'/\ResAt P w L rv v/\ResAll P w L l vs'
def uZ:List Value->Value
 |[v]=>v
 |vs=> .tuple vs.toArray
theorem ResAt.row{t:TypeId}{a:Nat}{b o:Nat}{cs:List Value}{v:Value}(d:look L a=some (.pointer (some ⟨b,o,none⟩)))(c:St m own w)(e:MRow m b o cs)(g:oH P t cs=some v):ResAt P w L (.cell a t) v:=
 ⟨b,o,cs,d,fun j u f=>c.inv.cell (e j u f),g⟩
theorem ResAt.blk{t e:TypeId}{a:Nat}{b o:Nat}{c:Array Value}{f:Nat×Nat}{v:Value}(g:look L a=some (.pointer (some ⟨b,o,none⟩)))(h:Piece.holds m w (.blk b (.cells c e f)))(k:oH P t (c.toList.drop o)=some v):ResAt P w L (.cell a t) v:=
 ⟨b,o,c.toList.drop o,g,fun j u d=>by
  rw[List.getElem?_drop] at d
  simp only[World.cell?,h.1]
  simpa using d,k⟩
def HU(tmps:Array Value):ResultVar->Sem Value
 | .tmp t=>pure (tmps.getD t undef)
 | .cell a t=>do loadVar t (<-asAddr (tmps.getD a undef))
theorem qGz(fn:Func)(tmps:Array Value):results fn tmps=(do let vs <-fn.results.mapM (HU tmps);pure (if h:vs.size=1 then vs[0] else .tuple vs)):=by
 unfold results
 congr 2
theorem AA{k:Nat}{fn:Func}{R:Ending->World->Prop}(rvs:List ResultVar)(vs:List Value)(q:fn.results=rvs.toArray)(y:ResAll P w L rvs vs)(h:R (.returned (uZ vs)) w):X ⟨k,[]⟩ (bodyPost P fn R) .ret L w:=by
 intro a c
 refine⟨c.2.1,uZ vs,?_,h⟩
 have key:∀(l:List ResultVar) (us:List Value),ResAll P w L l us->Sem.run P (l.mapM (HU a.tmps)) w= .ok us w:=by
  intro l
  induction l with
  |nil=>intro us h;simp[ResAll] at h;subst h;simp
  |cons r l z=>
   rintro us ⟨v,vs',rfl,e,f⟩
   have s:Sem.run P (HU a.tmps r) w= .ok v w:=by
    cases r with
    |tmp t=>
     have d:a.tmps[t]? =some v:=c.2.2 t v e
     simp[HU,d]
    |cell x t=>
     obtain⟨b,o,cs,g,n,p⟩:=e
     have d:a.tmps[x]? =some (.pointer (some ⟨b,o,none⟩)):=c.2.2 x _ g
     have:=zD (P:=P) n p
     simp[HU,d,asAddr,this]
   rw[List.mapM_cons]
   simp only[Sem.run_bind,s,Result.andThen_ok,z vs' f,Sem.run_pure]
 have d:=key rvs vs y
 rw[qGz,q]
 simp only[Sem.run_bind,List.mapM_toArray,Sem.run_map,d,Result.andThen_ok,Sem.run_pure]
 rcases vs with _|⟨v,_|⟨u,r⟩⟩
 .rfl
 .rfl
 simp[uZ]
end
end Go.Dc
namespace Go.Dc
theorem not_true{e:Bool}(h:e=false):¬e=true:=by rw[h];exact kJ
theorem ResAt.tmp{P:Program}{w:World}{L:bJ}{t:Nat}{v:Value}(h:look L t=some v):ResAt P w L (.tmp t) v:=h
theorem ResAll.nil{P:Program}{w:World}{L:bJ}:ResAll P w L [] []:=rfl
theorem ResAll.cons{P:Program}{w:World}{L:bJ}{rv:ResultVar}{l:List ResultVar}{v:Value}{vs:List Value}(a:ResAt P w L rv v)(b:ResAll P w L l vs):ResAll P w L (rv::l) (v::vs):=⟨v,vs,rfl,a,b⟩
theorem aW{α β:Type}{x:Option α}{f:α->Option β}{b:β}(h:x.bind f=some b):∃a,x=some a/\f a=some b:=jP.1 h
theorem QY{α1 α2 γ β:Type}{b:Option α1}{d:α1->Option α2}{c:Option γ}{k:α1->α2->γ->Option β}{r:β}(h:((b).bind fun x1=>(d x1).bind fun a=>c.bind fun y=>k x1 a y)=some r):(c.bind fun y=>(b).bind fun x1=>(d x1).bind fun a=>k x1 a y)=some r:=by
 cases c with
 |none=>simp at h
 |some y=>exact h
theorem qNm{α1 α2 α3 γ β:Type}{d:Option α1}{e:α1->Option α2}{f:α1->α2->Option α3}{c:Option γ}{k:α1->α2->α3->γ->Option β}{r:β}(h:((d).bind fun x1=>(e x1).bind fun a=>(f x1 a).bind fun b=>c.bind fun y=>k x1 a b y)=some r):(c.bind fun y=>(d).bind fun x1=>(e x1).bind fun a=>(f x1 a).bind fun b=>k x1 a b y)=some r:=by
 cases c with
 |none=>simp at h
 |some y=>exact h
end Go.Dc
namespace Go.Dc
theorem eN(e:Bool):e=true\/e=false:=by cases e<;>simp
end Go.Dc
namespace Go.Dc
theorem cN{σ β:Type}{f:σ->Option (σ⊕β)}{s:σ}{b:β}{p:Prop}(h:aI f 0 s=some b):p:=by simp[aI] at h
end Go.Dc
namespace Go.Dc
section
variable {ρ:Option Nat} {P:Program} {n:Fr} {ops:Array Oper} {Q:Exit->Act->World->Prop} {L:bJ} {w:World} {m:Mem} {own:List Piece}
def TS:List (Nat×(World->Prop))->Array Bool->World->Prop
 |[],_,_=>True
 |p::ks,l,w=>(l.getD p.1 false=true\/p.2 w)/\TS ks l w
theorem RK{ks:List (Nat×(World->Prop))}{l:Array Bool}{w:World}:TS ks l w↔∀p∈ks,l.getD p.1 false=true\/p.2 w:=by
 induction ks with
 |nil=>simp[TS]
 |cons p ks a=>simp[TS,a]
def ZF(ks:List (Nat×(World->Prop)))(i:Nat):Bool:=ks.all fun p=> !Nat.beq p.1 i
theorem qEx{ks:List (Nat×(World->Prop))}{i:Nat}(h:ZF ks i=true):∀p∈ks,p.1≠i:=by
 intro p a e
 have:=kE.1 h p a
 subst e
 simp at this
def HY(P:Program)(ops:Array Oper)(Q:Exit->Act->World->Prop)(ks:List (Nat×(World->Prop))):Nat->Array Bool->Act->World->Prop
 |0,listed,a,w=>Region.ready .any ops listed=[]/\Q .normal a w
 |fuel+1,listed,a,w=>
  (Region.ready .any ops listed=[]->Q .normal a w)/\
  ∀i∈Region.ready .any ops listed,nI P ops Q i (fun a' w'=>TS ks (listed.setIfInBounds i true) w'/\HY P ops Q ks fuel (listed.setIfInBounds i true) a' w') a w
theorem UW{ρ:Option Nat}(b:DC ρ ops=true){ks:List (Nat×(World->Prop))}:∀(fuel:Nat) (listed:Array Bool) (a:Act) (w:World),HY P ops Q ks fuel listed a w->wpAnyIn (mW ρ) 0 P .any ops Q fuel listed a w
 |0,_,_,_,h=>h
 |fuel+1,_,_,_,h=>⟨h.1,fun i hi=>ZX b (fun a' w' h'=>UW b fuel _ a' w' h'.2) (h.2 i hi)⟩
theorem TZ{S:World->Prop}{i:Nat}{o:Oper}{v:Value}{a:Act}(e:YieldsIf P ops S o v a)(hi:ops[i]? =some o)
  {K:Act->World->Prop} {w:World} (c:S w) (h:K (a.put o.dst v) w):nI P ops Q i K a w:=by
 unfold nI
 simp only[hi]
 rcases e with ⟨b,d⟩|⟨b,rfl⟩
 .simp only[b,jJ,d w c,Oper.uponIn];exact h
 simp only[b,jB,jI];exact h
theorem qIo{S:World->Prop}{j:Nat}{oi oj:Oper}{v:Value}(z:ops[j]? =some oj)(s:oi.apart ops oj=true)
  (t:∀cs b,oi.op≠ .select cs b) (y:∀cs b,oj.op≠ .select cs b)
  (o:∀c a w,Q (.panic c) (a.put oi.dst v) w->Q (.panic c) a w) {K:Act->World->Prop} {a:Act} {w:World}
  (k:YieldsIf P ops S oi v a) (h:nI P ops Q j K (a.put oi.dst v) w):
  nI P ops Q j (fun a' w'=>YieldsIf P ops S oi v a'/\K (a'.put oi.dst v) w') a w:=by
 obtain⟨p,n,q⟩:=Oper.apart_spec s
 have keep:∀(a:Act),YieldsIf P ops S oi v a->∀u,YieldsIf P ops S oi v (a.put oj.dst u):=fun a k u=>
  k.of_same (execOp_put oi t a oj.dst u q) (wanted_put oi a oj.dst u q)
 have keepD:∀d,YieldsIf P ops S oi v {a with defers:=d::a.defers}:=fun d=>k.of_same rfl rfl
 unfold nI at*
 simp only[z] at*
 rw[wanted_put oj a oi.dst v p] at h
 split
 .rename_i hw
  simp only[hw,jJ] at h
  rw[execOp_put oj y a oi.dst v p] at h
  generalize (execOp a.eval oj).run P w=r at*
  cases r with
  |ok x w'=>
   cases x<;>simp only[Oper.uponIn] at h ⊢
   case value u=>exact⟨keep a k u,by rw[<-Act.put_comm a v u n];exact h⟩
   case skip=>exact⟨keep a k _,by rw[<-Act.put_comm a v undef n];exact h⟩
   case defer d=>
    refine⟨keep _ (keepD d) _,?_⟩
    rw[<-Act.put_comm _ v undef n,<-Act.put_defers]
    exact h
   case enter f args=>
    refine⟨h.1,CallsIn.mono h.2 fun e w'' g=> ?_⟩
    cases e with
    |returned u=>exact⟨keep a k u,by rw[<-Act.put_comm a v u n];exact g⟩
    |panicked c=>exact o _ _ _ g
    |outgrown=>exact g
   case row row args=>exact⟨h.1,RowsIn.mono h.2 fun u w'' g=>⟨keep a k u,by rw[<-Act.put_comm a v u n];exact g⟩⟩
   case round l f tmps assign body=>
    refine⟨h.1,RoundIn.mono h.2 fun e w'' g=> ?_⟩
    cases e with
    |returned u=>exact⟨keep a k u,by rw[<-Act.put_comm a v u n];exact g⟩
    |panicked c=>exact o _ _ _ g
    |outgrown=>exact g
  |halt x w'=>
   cases x<;>simp only[Oper.uponIn] at h ⊢
   case panic u=>exact o _ _ _ h
 rename_i hw
 simp only[hw] at h
 exact⟨keep a k _,by rw[<-Act.put_comm a v undef n];exact h⟩
def KR(ops:Array Oper)(k i:Nat):Bool:=
 match ops[k]? with
 |none=>true
 |some o=>o.after.any fun e=>Region.binds .any e&&e.on==i
theorem qEq{k i:Nat}(h:KR ops k i=true){listed:Array Bool}(hi:listed.getD i true=false):k∉Region.ready .any ops listed:=by
 intro f
 obtain⟨_,o,g,b⟩:=mem_ready.1 f
 simp only[KR,g] at h
 obtain⟨e,d,c⟩:=Array.any_eq_true'.1 h
 simp only[jM,kN] at c
 have a:=b e d c.1
 rw[c.2] at a
 rcases fR i listed.size with h'|h'
 .simp[h'] at hi a;rw[hi] at a;cases a
 simp[Array.getElem?_eq_none h'] at a
theorem RO{ks:List (Nat×(World->Prop))}{l:Array Bool}{w:World}{i:Nat}(h:TS ks l w):TS ks (l.setIfInBounds i true) w:=by
 rw[RK] at*
 intro p a
 rcases h p a with h|h
 .left
  by_cases hi:i=p.1
  .subst hi
   rcases fR p.1 l.size with h'|h'
   .simp[h']
   simp[Array.getElem?_eq_none h'] at h
  rw[getD_set_ne false hi];exact h
 exact .inr h
theorem qKp{ks:List (Nat×(World->Prop))}{l:Array Bool}{w:World}{i j:Nat}(b:∀p∈ks,p.1≠i)(h:TS ks ((l.setIfInBounds i true).setIfInBounds j true) w):TS ks (l.setIfInBounds j true) w:=by
 by_cases hij:i=j
 .subst hij;simpa using h
 rw[RK] at*
 intro p a
 rcases h p a with h|h
 .left
  by_cases hj:j=p.1
  .subst hj
   rcases fR p.1 l.size with h'|h'
   .simp[h']
   simp[Array.getElem?_eq_none h'] at h;omega
  rw[getD_set_ne false hj] at h ⊢
  rw[getD_set_ne false (Ne.symm (b p a))] at h;exact h
 exact .inr h
theorem qEt{k i:Nat}{S:World->Prop}{ks:List (Nat×(World->Prop))}(z:(k,S)∈ks)(F:∀p∈ks,p.1≠i){oi:Oper}{v:Value}(y:KR ops k i=true)(hi:ops[i]? =some oi)(B:∀(j:Nat) (o:Oper) cs b,ops[j]? =some o->o.op≠ .select cs b)
  (Y:∀c a w,Q (.panic c) (a.put oi.dst v) w->Q (.panic c) a w):
  ∀(fuel:Nat) (listed:Array Bool) (a:Act) (w:World),listed.getD k false=false->
   (∀j oj,ops[j]? =some oj->j≠i->listed.getD j true=false->(∀e∈oj.after,Region.binds .any e=true->e.on≠i)->oi.apart ops oj=true)->
   i∈Region.ready .any ops listed->YieldsIf P ops S oi v a->TS ks listed w->
   HY P ops Q ks fuel (listed.setIfInBounds i true) (a.put oi.dst v) w->HY P ops Q ks (fuel+1) listed a w:=by
 have a0:k≠i:=F _ z
 have getS:∀{l:Array Bool} {w:World},l.getD k false=false->TS ks l w->S w:=fun D h=>by
  rcases RK.1 h _ z with h|h
  .simp only at h;rw[D] at h;cases h
  exact h
 intro fuel
 induction fuel with
 |zero=>
  intro listed a w s _ f E t H
  refine⟨fun h=>(by rw[h] at f;cases f),fun j u=> ?_⟩
  by_cases d:j=i
  .subst d;exact TZ E hi (getS s t) ⟨RO t,H⟩
  have:=ready_mono u d
  rw[H.1] at this
  cases this
 |succ fuel ih=>
  intro listed a w s n f E t H
  refine⟨fun h=>(by rw[h] at f;cases f),fun j u=> ?_⟩
  by_cases d:j=i
  .subst d;exact TZ E hi (getS s t) ⟨RO t,H⟩
  have r:j≠k:=by
   rintro rfl
   exact qEq y (mem_ready.1 f).1 u
  have g:=H.2 j (ready_mono u d)
  obtain⟨x,oj,A,K⟩:=mem_ready.1 u
  have M:∀e∈oj.after,Region.binds .any e=true->e.on≠i:=fun e he Z R=>by
   have g:=K e he Z
   have D:=(mem_ready.1 f).1
   rw[R] at g
   rcases fR i listed.size with h'|h'
   .simp[h'] at D g;rw[D] at g;cases g
   simp[Array.getElem?_eq_none h'] at g
  have V:=qIo A (n j oj A d x M) (fun cs b=>B i oi cs b hi) (fun cs b=>B j oj cs b A) Y E g
  have hfree':∀q ok,ops[q]? =some ok->q≠i->(listed.setIfInBounds j true).getD q true=false->
    (∀e∈ok.after,Region.binds .any e=true->e.on≠i)->oi.apart ops ok=true:=fun q ok hk y G U=>by
   refine n q ok hk y ?_ U
   by_cases r:j=q
   .subst r;exact x
   rw[getD_set_ne true r] at G;exact G
  have hk0':(listed.setIfInBounds j true).getD k false=false:=by rw[getD_set_ne false r];exact s
  refine KO (fun a' w' G=> ?_) V
  have hT':TS ks (listed.setIfInBounds j true) w':=qKp F G.2.1
  refine⟨hT',ih (listed.setIfInBounds j true) a' w' hk0' hfree' (ready_mono f (Ne.symm d)) G.1 hT' ?_⟩
  rw[Array.setIfInBounds_comm _ _ d]
  exact G.2.2
def QP(Q:Exit->Act->World->Prop):Prop:=∀c a w d v,Q (.panic c) (Act.put a d v) w->Q (.panic c) a w
theorem bM{K:Act->World->Prop}(h:QP Q):QP (Exit.then K Q):=h
theorem cX{id:Nat}(h:QP Q):QP (Exit.inBlock id Q):=h
theorem eQ{fn:Func}{R:Ending->World->Prop}:QP (bodyPost P fn R):=by
 rintro c a w d v ⟨b,e⟩
 refine⟨?_,e⟩
 cases d<;>exact b
def marks(l:List Nat)(n:Nat):Array Bool:=l.foldl (fun a i=>a.setIfInBounds i true) (Array.replicate n false)
def WA(P:Program)(n:Fr)(ops:Array Oper)(Q:Exit->Act->World->Prop)(ks:List (Nat×(World->Prop)))(fuel:Nat)(done:List Nat)(L:bJ)(w:World):Prop:=
 TS ks (marks done ops.size) w->∀a,Fits n a L->HY P ops Q ks fuel (marks done ops.size) a w
theorem CQ(l:List Nat)(i n:Nat):marks (l++[i]) n=(marks l n).setIfInBounds i true:=by simp[marks,List.foldl_append]
theorem qKy{id:Nat}(d:DC ρ ops=true)(ks:List (Nat×(World->Prop)))(e:P.follows .mixedOrders=true)(st:St m own w)(h:∀w',w'.heap=w.heap->St m own w'->TS ks (marks [] ops.size) w'/\WA P n ops Q ks ops.size [] L w'):W ρ P n (.region id ops true) Q L w:=by
 intro a c
 have b:=h {w with drawn:=w.drawn+1} rfl (st.grow ⟨⟨rfl,rfl⟩,rfl,mK⟩ fun _ _=>rfl)
 exact wpIn_region_any e (UW d (ks:=ks) _ _ _ _ (b.2 b.1 a c))
theorem eI{id:Nat}(ks:List (Nat×(World->Prop)))(a:P.follows .mixedOrders=true)(st:St m own w)(h:∀w',w'.heap=w.heap->St m own w'->TS ks (marks [] ops.size) w'/\WA P n ops Q ks ops.size [] L w'):W none P n (.region id ops true) Q L w:=qKy rfl ks a st h
def pF(ops:Array Oper)(ks:List (Nat×(World->Prop)))(k i:Nat)(done:List Nat):Bool:=
 Region.noSelect ops&&Region.free .any ops (marks done ops.size) i&&(Region.ready .any ops (marks done ops.size)).contains i&&KR ops k i&&ZF ks i&& !((marks done ops.size).getD k false)
section
variable {ks:List (Nat×(World->Prop))}
theorem PP{k fuel:Nat}{S:World->Prop}{done:List Nat}{i:Nat}{o:Oper}{v:Value}{L':bJ}(d:ops[i]? =some o)(g:pF ops ks k i done=true)(b:(k,S)∈ks)(p:QP Q)
  (q:∀a,Fits n a L->YieldsIf P ops S o v a) (l:∀a,Fits n a L->Fits n (a.put o.dst v) L') (h:WA P n ops Q ks fuel (done++[i]) L' w):WA P n ops Q ks (fuel+1) done L w:=by
 simp only[pF,jM,dC] at g
 obtain⟨⟨⟨⟨⟨r,s⟩,t⟩,u⟩,x⟩,y⟩:=g
 intro e a f
 have hT':TS ks (marks (done++[i]) ops.size) w:=by rw[CQ];exact RO e
 have:=h hT' (a.put o.dst v) (l a f)
 rw[CQ] at this
 exact qEt b (qEx x) u d (Region.noSelect_spec r) (fun c a w=>p c a w _ _) fuel _ a w y (Region.free_spec d s) (by simpa using t) (q a f) e this
theorem zQ{k fuel:Nat}{S:World->Prop}{done:List Nat}(i d:Nat)(op:Op)(v:Value)(s:cL ops L i=some (some d,op))(r:Nat.blt d n=true)
  (u:pF ops ks k i done=true) (c:(k,S)∈ks)
  (t:QP Q) (e:∀o:Oper,o.op=op->∀w,S w->(execOp (lU L) o).run P w= .ok (.value v) w)
  (h:WA P n ops Q ks fuel (done++[i]) ((d,v)::L) w):WA P n ops Q ks (fuel+1) done L w:=by
 obtain⟨o,f,g,l,p,q⟩:=GX s
 exact PP f u c t (v:=v) (fun a b=> .inl ⟨b.wanted p,fun w' hw'=>by rw[b.exec q];exact e o l w' hw'⟩) (fun a b=>by rw[g];exact b.put r v) h
theorem qMz{k fuel:Nat}{S:World->Prop}{done:List Nat}(i d:Nat)(r:((ops[i]?).bind fun o=>(mO ops L o.guard).map fun b=>(o.dst,b))=some (some d,false))(q:Nat.blt d n=true)
  (t:pF ops ks k i done=true) (f:(k,S)∈ks)
  (s:QP Q) (h:WA P n ops Q ks fuel (done++[i]) ((d,undef)::L) w):WA P n ops Q ks (fuel+1) done L w:=by
 obtain⟨o,g,l⟩:=jP.1 r
 obtain⟨b,p,c⟩:=kT.1 l
 simp only[Prod.mk.injEq] at c
 obtain⟨c,rfl⟩:=c
 exact PP g t f s (v:=undef) (fun a e=> .inr ⟨e.wanted p,rfl⟩) (fun a e=>by rw[c];exact e.put q undef) h
theorem cA{fuel:Nat}{done:List Nat}(i:Nat)(e:Region.ready .any ops (marks done ops.size)=[i])
  (h:dN P n ops Q i (fun L' w'=>TS ks (marks (done++[i]) ops.size) w'/\WA P n ops Q ks fuel (done++[i]) L' w') L w):WA P n ops Q ks (fuel+1) done L w:=by
 intro _ a k
 refine⟨fun d=>(by rw[e] at d;cases d),fun j c=> ?_⟩
 rw[e] at c
 simp only[kI] at c
 subst c
 refine KO (fun a' w' h'=> ?_) (h a k)
 obtain⟨L',f,b,g⟩:=h'
 have:=g b a' f
 rw[CQ] at b
 rw[CQ] at this
 exact⟨b,this⟩
theorem dU{fuel:Nat}{done:List Nat}(c:Region.ready .any ops (marks done ops.size)=[])(h:X n Q .normal L w):WA P n ops Q ks fuel done L w:=by
 intro _ a b
 cases fuel with
 |zero=>exact⟨c,h a b⟩
 |succ f=>exact⟨fun _=>h a b,(by rw[c];simp)⟩
theorem DJ{fuel:Nat}{done:List Nat}{t:Nat}{b:Bool}(e:Bool)(d:look L t=some (.bool e))(f:e=b)(h:WA P n ops Q ks fuel done ((t,.bool b)::L) w):WA P n ops Q ks fuel done L w:=by
 intro g a k
 refine h g a (k.sub ?_)
 intro u v c
 simp only[look] at c
 cases hb:Nat.beq t u with
 |true=>
  simp only[hb,cond_true] at c
  have:=fH hb;subst this
  rw[d,f];exact c
 |false=>simp only[hb,cond_false] at c;exact c
end
theorem Inv.anti{m':Mem}(h:Inv m' w)(a:m.le m'):Inv m w:=⟨fun b o v c=>h.1 b o v (a.1 _ _ _ c),fun b x d=>h.2.1 b x (a.2.1 _ _ d),a.2.2▸h.2.2⟩
theorem Piece.holds_anti{m':Mem}{b:Nat}{o:Obj}(h:Piece.holds m' w (.blk b o))(a:m.le m'):Piece.holds m w (.blk b o):=by
 refine⟨h.1,fun q=> ?_,?_⟩
 .cases hc:m.cell b q with
  |none=>rfl
  |some v=>rw[<-h.2.1 q,a.1 _ _ _ hc]
 cases hc:m.obj b with
 |none=>rfl
 |some v=>rw[<-h.2.2,a.2.1 _ _ hc]
def RJ(P:Program)(ops:Array Oper)(L:bJ)(i:Nat):Option (Nat×Value):=
 match ops[i]? with
 |none=>none
 |some o=>match mO ops L o.guard with
  |some true=>bif nM L o.op then(match o.dst,qI P (execOp (lU L) o) with
   |some d,some (.value v)=>some (d,v)
   |_,_=>none) else none
  |_=>none
theorem qMc{ks:List (Nat×(World->Prop))}{k fuel:Nat}{S:World->Prop}{done:List Nat}(i d:Nat)(v:Value)(c:RJ P ops L i=some (d,v))(q:Nat.blt d n=true)(s:pF ops ks k i done=true)(p:(k,S)∈ks)(r:QP Q)
  (h:WA P n ops Q ks fuel (done++[i]) ((d,v)::L) w):WA P n ops Q ks (fuel+1) done L w:=by
 unfold RJ at c
 cases g:ops[i]? with
 |none=>simp[g] at c
 |some o=>
  simp only[g] at c
  cases f:mO ops L o.guard with
  |none=>simp[f] at c
  |some b=>
   cases b with
   |false=>simp[f] at c
   |true=>
    simp only[f] at c
    cases l:nM L o.op with
    |false=>simp[l] at c
    |true=>
     simp only[l,cond_true] at c
     split at c
     .rename_i d' v' hd' he
      simp only[jL,Prod.mk.injEq] at c
      obtain⟨rfl,rfl⟩:=c
      exact PP g s p r (v:=v') (fun a e=> .inl ⟨e.wanted f,fun w' _=>by rw[e.exec l];exact zO he w'⟩) (fun a e=>by rw[hd'];exact e.put q v') h
     cases c
theorem qFx{ks:List (Nat×(World->Prop))}{k fuel:Nat}{S:World->Prop}{done:List Nat}{t:TypeId}{x:Operand}{b o:Nat}{cs:List Value}(i d:Nat)(v:Value)(l:cL ops L i=some (some d,.load t x))(f:Nat.blt d n=true)
  (r:pF ops ks k i done=true) (a:(k,S)∈ks) (c:QP Q) (e:∀w,S w->Inv m w) (z:bL L x=some (.pointer (some ⟨b,o,none⟩))) (p:MRow m b o cs) (y:oH P t cs=some v)
  (h:WA P n ops Q ks fuel (done++[i]) ((d,v)::L) w):WA P n ops Q ks (fuel+1) done L w:=by
 refine zQ i d _ v l f r a c (fun q c w' hw'=> ?_) h
 have g:=zD (P:=P) (w:=w') (t:=t) (b:=b) (o:=o) (cs:=cs) (v:=v) (fun j u s=>(e w' hw').cell (p j u s)) y
 simp[execOp,c,Instr.loadAt,cB z,Instr.sureAddr,g]
theorem qFo{ks:List (Nat×(World->Prop))}{k fuel:Nat}{S:World->Prop}{done:List Nat}{t e:TypeId}{x:Operand}{b o:Nat}{c:Array Value}{f:Nat×Nat}(i d:Nat)(v:Value)(z:cL ops L i=some (some d,.load t x))(s:Nat.blt d n=true)
  (A:pF ops ks k i done=true) (a:(k,S)∈ks) (g:QP Q) (p:∀w,S w->Piece.holds m w (.blk b (.cells c e f))) (D:bL L x=some (.pointer (some ⟨b,o,none⟩))) (B:oH P t (c.toList.drop o)=some v)
  (h:WA P n ops Q ks fuel (done++[i]) ((d,v)::L) w):WA P n ops Q ks (fuel+1) done L w:=by
 refine zQ i d _ v z s A a g (fun q g w' hw'=> ?_) h
 have r:=(p w' hw').1
 have y:=zD (P:=P) (w:=w') (t:=t) (b:=b) (o:=o) (cs:=c.toList.drop o) (v:=v) (fun j u l=>by
  rw[List.getElem?_drop] at l
  simp only[World.cell?,r]
  simpa using l) B
 simp[execOp,g,Instr.loadAt,cB D,Instr.sureAddr,y]
theorem iZ{α:Type}{ks:List (Nat×(World->Prop))}{k fuel:Nat}{S:World->Prop}{done:List Nat}{t e:TypeId}{x y:Operand}(i d:Nat)(c:Codec α){a:Option Addr}{cap:Nat}{l:List α}{kd:IntKind}{ix:Int}{z:α}(G:cL ops L i=some (some d,.indexAddr t x y))(E:Nat.blt d n=true)
  (H:pF ops ks k i done=true) (r:(k,S)∈ks) (s:QP Q)
  (K:bL L x=some (.slice a l.length cap)) (M:bL L y=some (.int kd ix)) (hi:qR P t=some (e,c.sz)) (u:RepS c m a cap l) (g:idx l ix=some z)
  (h:∀b o cs,c.rep m z cs->MRow m b o cs->WA P n ops Q ks fuel (done++[i]) ((d,.pointer (some ⟨b,o,none⟩))::L) w):WA P n ops Q ks (fuel+1) done L w:=by
 obtain⟨v,inf,A,B⟩:=CF hi
 unfold idx at g
 split at g
 .rename_i h0
  have f:ix.toNat<l.length:=(List.getElem?_eq_some_iff.1 g).1
  cases a with
  |none=>obtain⟨rfl,_⟩:=u.none_nil;simp at f
  |some p=>
   obtain⟨cs,D,F⟩:=u.2.2.2 _ _ g
   refine zQ i d _ _ G E H r s (fun q s w' _=> ?_) (h p.block (p.off+ix.toNat*c.sz) cs D F)
   have hlt':ix<(l.length:Int):=by omega
   simp[execOp,s,Instr.indexAt,cB K,cB M,asIntOf,run_underlying v,h0,hlt',sizeOf,typeInfo,A,B,HA (u.spot (fun e=>by rw[e] at f;simp at f))]
 cases g
theorem YC{α:Type}{ks:List (Nat×(World->Prop))}{k fuel:Nat}{S:World->Prop}{done:List Nat}{t e:TypeId}{x:Operand}{lo hi:Option Operand}(i d:Nat)(c:Codec α){a:Option Addr}{cap:Nat}{l r:List α}{li hix:Int}
  (A:cL ops L i=some (some d,.slice t x lo hi none)) (z:Nat.blt d n=true) (s:pF ops ks k i done=true) (b:(k,S)∈ks) (f:QP Q) (F:bL L x=some (.slice a l.length cap)) (u:qR P t=some (e,c.sz)) (B:RepS c m a cap l)
  (p:(lo=none/\li=0)\/∃y k,lo=some y/\bL L y=some (.int k li)) (o:(hi=none/\hix=l.length)\/∃y k,hi=some y/\bL L y=some (.int k hix)) (D:nH l li hix=some r)
  (h:∀a' cap',RepS c m a' cap' r->WA P n ops Q ks fuel (done++[i]) ((d,.slice a' r.length cap')::L) w):WA P n ops Q ks (fuel+1) done L w:=by
 obtain⟨v,E,a',cap',rfl,g⟩:=VV (P:=P) (L:=L) c F u B p o D
 exact zQ i d _ _ A z s b f (fun q f w' _=>E q f w') (h a' cap' g)
end
end Go.Dc
namespace Go.Dc
end Go.Dc
namespace Go.Dc
section
variable {ρ:Option Nat} {P:Program} {n:Fr} {ops:Array Oper} {Q:Exit->Act->World->Prop} {i d:Nat} {L:bJ} {w:World} {m:Mem} {own:List Piece} {N:bJ->World->Prop}
def LF(P:Program)(t:TypeId):Option TypeId:=
 match P.underlying t with
 |some (.slice e)=>match P.underlying e with
  |some (.int .u8)=>some e
  |_=>none
 |_=>none
theorem TO{t e:TypeId}(h:LF P t=some e):P.underlying t=some (.slice e)/\P.underlying e=some (.int .u8):=by
 unfold LF at h
 split at h
 .rename_i e' he
  split at h
  .rename_i he';simp only[jL] at h;subst h;exact⟨he,he'⟩
  cases h
 cases h
def bytesOf(s:BA):Option (List UInt8):=if s.size<=maxLen then some s.data.toList else none
theorem TN{t1 t2 e:TypeId}{x:Operand}{s:BA}{l:List UInt8}(M:cL ops L i=some (some d,.convert t1 t2 x))(K:Nat.blt d n=true)(g:bL L x=some (.string s))
  (p:LF P t2=some e) (y:P.underlying t1=some .string) (st:St m own w) (f:bytesOf s=some l)
  (h:∀b cap m' w',m.le m'->St m' own w'->RepS iX m' (some ⟨b,0,none⟩) cap l->N ((d,.slice (some ⟨b,0,none⟩) l.length cap)::L) w'):dN P n ops Q i N L w:=by
 obtain⟨G,H⟩:=TO p
 unfold bytesOf at f
 split at f
 .rename_i hmx
  simp only[jL] at f;subst f
  generalize hgc:grownCap w s.size 0 e=gc
  have z:s.size<=gc:=hgc▸grownCap_ge _ _ _ _
  have A:gc<=maxLen:=hgc▸grownCap_le_maxLen _ _ _ _ hmx
  generalize hcur:(s.data.map fun b=>Value.int .u8 (b.toNat:Int))++Array.replicate (gc-s.size) (.int .u8 0)=cur
  have u:(convert t1 t2 (.string s)).run P w= .ok (.slice (some ⟨w.heap.size,0,none⟩) s.size gc) (w.drew.alloc (.cells cur e (cur.size,cur.size+1))):=by
   have c:(Question.appendCap s.size 0 e).forced=false:=rfl
   have r:(Question.appendCap s.size 0 e).cut (w.tape w.drawn (Question.appendCap s.size 0 e))=gc:=hgc
   have a:(w.drew.alloc (.cells cur e)).heap[w.heap.size]? =some (.cells cur e):=by
    show(w.heap.push (.cells cur e))[w.heap.size]? =_
    simp
   have E:(w.drew.alloc (.cells cur e)).shape? w.heap.size=some (e,cur.size):=by
    unfold World.shape?
    rw[a]
   have t:∀k:Nat,(w.drew.alloc (.cells cur e)).freeze ⟨w.heap.size,k,none⟩ 1=w.drew.alloc (.cells cur e (k,k+1)):=fun k=>by
    unfold World.freeze World.alloc World.drew
    simp only[Nat.one_ne_zero,jI]
    congr 1
    apply Array.ext
    .simp
    intro j p y
    simp only[Array.getElem_modify]
    by_cases hj:w.heap.size=j
    .subst hj;simp
    have:j<w.heap.size:=by simp at p;omega
    simp[hj,Array.getElem_push_lt this]
   have B:(markStringish ⟨w.heap.size,0,none⟩).run P (w.drew.alloc (.cells cur e))= .ok () (w.drew.alloc (.cells cur e (cur.size,cur.size+1))):=by
    simp[markStringish,E,t]
   have D:(newRow e cur).run P w.drew= .ok ⟨w.heap.size,0,none⟩ (w.drew.alloc (.cells cur e)):=rfl
   have F:(Conv.stringToBytes e s).run P w= .ok (.slice (some ⟨w.heap.size,0,none⟩) s.size gc) (w.drew.alloc (.cells cur e (cur.size,cur.size+1))):=by
    unfold Conv.stringToBytes
    simp only[Sem.run_bind,run_choose,c,jB,jI,Result.andThen_ok,r,hcur]
    show((newRow e cur).run P w.drew).andThen _=_
    rw[D]
    simp only[Result.andThen_ok,B,Sem.run_pure]
   simp[convert,run_underlying y,run_underlying G,run_underlying H,F]
  have a:=st.alloc (w':=w.drew.alloc (.cells cur e (cur.size,cur.size+1))) (o:= .cells cur e (cur.size,cur.size+1)) ⟨⟨rfl,rfl⟩,rfl,mK⟩ rfl
  have c:=st.fresh_free
  have B:cur.toList.take (s.data.toList.map fun b=>Value.int .u8 (b.toNat:Int)).length=s.data.toList.map fun b=>Value.int .u8 (b.toNat:Int):=by
   rw[<-hcur,Array.toList_append,Array.toList_map,dE]
  obtain⟨m',F,R,k3,_⟩:=St.know (b:=w.heap.size) (cs:=s.data.toList.map fun b=>Value.int .u8 (b.toNat:Int)) a.tail (a.head_ne rfl) a.head.1 B (fun o v D=>by rw[c.1 o] at D;cases D)
  have t:RepS iX m' (some ⟨w.heap.size,0,none⟩) gc s.data.toList:=RepS.of_cells (by simpa using z) A (fun j x g=>by
   have r:=(List.getElem?_eq_some_iff.1 g).1
   have E:=(List.getElem?_eq_some_iff.1 g).2
   show List.take 1 (List.drop (j*1) _)=_
   rw[Nat.mul_one,<-List.map_drop,<-List.map_take,kH r,E]
   rfl) k3
  have r:s.data.toList.length=s.size:=by simp
  refine lL M K (fun q E=> ?_) (h w.heap.size gc m' _ F R t)
  simp only[execOp,E,cB g,Sem.run_bind,u,Result.andThen_ok,Sem.run_pure,r]
 cases f
end
end Go.Dc
namespace Go.Dc
section
variable {ρ:Option Nat} {P:Program} {n:Fr} {ops:Array Oper} {Q:Exit->Act->World->Prop} {i d:Nat} {L:bJ} {w:World} {m:Mem} {own:List Piece} {N:bJ->World->Prop}
theorem OZ{f:FuncId}{args:Array Value}{R:Ending->World->Prop}(I:Value->World->Prop)(a:∀v w',I v w'->R (.returned v) w')(h:Calls P f args w fun e w'=>∃v,e= .returned v/\I v w'):Calls P f args w R:=
 h.mono fun e w' ⟨v,b,hi⟩=>b▸a v w' hi
theorem oV{k:Nat}{fn:Func}{R:Ending->World->Prop}(rvs:List ResultVar)(vs:List Value)(a:fn.results=rvs.toArray)(b:ResAll P w L rvs vs)(h:R (.returned (uZ vs)) w):X ⟨k,[]⟩ (bodyPost P fn R) .normal L w:=AA (P:=P) (fn:=fn) (R:=R) rvs vs a b h
end
end Go.Dc
end
namespace Go.Dc
section
def qPd(P:Program)(fn:Func)(R:Ending->World->Prop):Exit->Act->World->Prop
 | .normal,a,w=>LeavesInM Fence.wide 0 P fn a.tmps R a.defers .returning w
 | .ret,a,w=>LeavesInM Fence.wide 0 P fn a.tmps R a.defers .returning w
 |_,_,_=>False
section
variable {ρ:Option Nat} {P:Program} {n:Fr} {ops:Array Oper} {Q:Exit->Act->World->Prop} {i d:Nat} {L:bJ} {w:World} {m:Mem} {own:List Piece} {N:bJ->World->Prop}
def FitsT(sz:Nat)(T:Array Value)(L:bJ):Prop:=T.size=sz/\∀t v,look L t=some v->T[t]? =some v
theorem VK {f : FuncId} {fn : Func} (c : P.funcs[f]? = some fn) (h : (fn.name == "runtime.NumGoroutine", fn.body.isNone) = (false, false)) (args : Array Value) (w : World) : (callFunc f args).run P w = .ok (.enter f args) w := by
 simp only[Prod.mk.injEq] at h
 have a : ¬ fn.name = "runtime.NumGoroutine" := by simpa using h.1
 have b:¬fn.body=none:=fun e=>by rw[e] at h;simp at h
 simp[callFunc,c,a,b]
def qOk(P:Program)(l:Nat)(body:Code)(R:Ending->World->Prop):Exit->Act->World->Prop:=
 Exit.then (fun a₁ w₁=>∃w₂,(Instr.beginRound l).run P w₁= .ok () w₂/\body.wpIn (mW (some l)) 0 P (roundPost P l R) a₁ w₂) (fun _ _ _=>False)
theorem FitsT.set{sz:Nat}{T:Array Value}{L:bJ}(h:FitsT sz T L){p:Nat}(d:p<sz)(v:Value):FitsT sz (T.setIfInBounds p v) ((p,v)::L):=by
 obtain⟨b,c⟩:=h
 refine⟨by simp[b],fun t u a=> ?_⟩
 simp only[look] at a
 by_cases hpt:p=t
 .subst hpt
  simp at a;subst a
  simp[Array.getElem?_setIfInBounds,b,d]
 have:Nat.beq p t=false:=by cases hb:Nat.beq p t<;>simp_all [Nat.beq_eq]
 rw[this] at a
 simp[Array.getElem?_setIfInBounds,hpt,c t u a]
end
end
end Go.Dc
section
namespace Go.Dc
def dR{κ ν:Type}[DecidableEq κ]:List (κ×ν)->κ->Option ν
 |[],_=>none
 |p::l,k=>if k=p.1 then some p.2 else dR l k
def pV{κ ν:Type}[DecidableEq κ]:List (κ×ν)->κ->ν->List (κ×ν)
 |[],k,v=>[(k,v)]
 |p::l,k,v=>if k=p.1 then(k,v)::l else p::pV l k v
class KOrd(κ:Type) where
 lt:κ->κ->Bool
instance:KOrd Int:=⟨fun a b=>decide (a<b)⟩
instance:KOrd BA:=⟨fun a b=>decide (a.data.toList<b.data.toList)⟩
instance{α β:Type}[DecidableEq α][KOrd α][KOrd β]:KOrd (α×β):=⟨fun a b=>KOrd.lt a.1 b.1||(decide (a.1=b.1)&&KOrd.lt a.2 b.2)⟩
def mins{κ ν:Type}[KOrd κ]:List (κ×ν)->κ->ν->List (κ×ν)
 |[],k,v=>[(k,v)]
 |p::l,k,v=>if KOrd.lt k p.1=true then(k,v)::p::l else p::mins l k v
def mset{κ ν:Type}[DecidableEq κ][KOrd κ](l:List (κ×ν))(k:κ)(v:ν):List (κ×ν):=
 if(dR l k).isSome=true then l.map fun p=>if k=p.1 then(k,v) else p else mins l k v
theorem OY{κ ν:Type}[DecidableEq κ]{l:List (κ×ν)}{k:κ}:dR l k=none↔k∉l.map (·.1):=by
 induction l with
 |nil=>simp[dR]
 |cons p l a=>
  simp only[dR,kG,jR,not_or]
  split
  .rename_i h;simp[h]
  rename_i h;rw[a];exact⟨fun g=>⟨h,g⟩,fun g=>g.2⟩
theorem PN{κ ν:Type}[DecidableEq κ]{l:List (κ×ν)}{k:κ}{v:ν}(a:(l.map (·.1)).Nodup):dR l k=some v↔(k,v)∈l:=by
 induction l with
 |nil=>simp[dR]
 |cons p l b=>
  simp only[kG,fM] at a
  simp only[dR,jR]
  split
  .rename_i h
   subst h
   constructor
   .intro e;left;simp at e;rw[<-e]
   rintro(e|e)
   .rw[<-e]
   exact absurd (gY (f:=(·.1)) e) a.1
  rename_i h
  rw[b a.2]
  constructor
  .intro e;exact .inr e
  rintro(e|e)
  .exact absurd (congrArg Prod.fst e) h
  exact e
theorem WB{κ ν:Type}[DecidableEq κ]{l l':List (κ×ν)}(a:l'.Perm l)(b:(l'.map (·.1)).Nodup)(k:κ):dR l' k=dR l k:=by
 have hn':(l.map (·.1)).Nodup:=(a.map _).nodup_iff.1 b
 cases h:dR l k with
 |none=>rw[OY] at h ⊢;exact fun g=>h ((a.map _).mem_iff.1 g)
 |some v=>rw[PN hn'] at h;rw[PN b];exact a.mem_iff.2 h
theorem VN{κ ν:Type}[DecidableEq κ]{l:List (κ×ν)}{k:κ}{v:ν}(h:dR l k=none):pV l k v=l++[(k,v)]:=by
 induction l with
 |nil=>rfl
 |cons p l a=>
  simp only[dR] at h
  split at h
  .cases h
  rename_i hk;simp[pV,hk,a h]
theorem WH{κ ν:Type}[DecidableEq κ]{l:List (κ×ν)}{k:κ}{v:ν}(a:(l.map (·.1)).Nodup)(h:dR l k≠none):pV l k v=l.map fun p=>if k=p.1 then(k,v) else p:=by
 induction l with
 |nil=>exact absurd rfl h
 |cons p l c=>
  simp only[kG,fM] at a
  simp only[pV,kG]
  by_cases hk:k=p.1
  .simp only[hk,jJ]
   congr 1
   rw[<-hk]
   refine(List.map_congr_left fun q b=> ?_).trans (List.map_id _)|>.symm
   have:k≠q.1:=fun e=>a.1 (by rw[<-hk,e];exact gY (f:=(·.1)) b)
   simp[this]
  simp only[hk,jI]
  rw[c a.2 (by simpa[dR,hk] using h)]
theorem WJ{κ ν:Type}[KOrd κ](l:List (κ×ν))(k:κ)(v:ν):(mins l k v).Perm ((k,v)::l):=by
 induction l with
 |nil=>exact .refl _
 |cons p l a=>
  simp only[mins]
  split
  .exact .refl _
  exact(List.Perm.cons p a).trans (.swap _ _ _)
theorem KG{κ ν:Type}[DecidableEq κ][KOrd κ]{l l':List (κ×ν)}(a:l'.Perm l)(c:(l'.map (·.1)).Nodup)(k:κ)(v:ν):(pV l' k v).Perm (mset l k v):=by
 have b:=WB a c k
 unfold mset
 cases h:dR l k with
 |none=>
  rw[VN (by rw[b,h])]
  simp only[Option.isSome_none,jB,jI]
  exact(List.perm_append_comm.trans (List.Perm.cons _ a)).trans (WJ l k v).symm
 |some u=>
  rw[WH c (by rw[b,h];simp)]
  simp only[Option.isSome_some,jJ]
  exact a.map _
theorem KD{κ ν:Type}[DecidableEq κ]{l:List (κ×ν)}(c:(l.map (·.1)).Nodup)(k:κ)(v:ν):((pV l k v).map (·.1)).Nodup:=by
 cases h:dR l k with
 |none=>
  rw[VN h,fB,List.nodup_append]
  refine⟨c,by simp,?_⟩
  intro a f b d e
  simp at d;subst d e
  exact OY.1 h f
 |some u=>
  rw[WH c (by rw[h];simp)]
  have:(l.map fun p=>if k=p.1 then(k,v) else p).map (·.1)=l.map (·.1):=by
   rw[List.map_map]
   refine List.map_congr_left fun q _=> ?_
   simp only[Function.comp]
   split
   .rename_i e;exact e
   rfl
  rw[this];exact c
def pL(agg:Bool)(cs:List Value):Value:=bif agg then .agg cs.toArray else cs.headD undef
def MapL{κ ν:Type}(ek:κ->Value)(c:Codec ν)(agg:Bool)(m:Mem):List MapEntry->List (κ×ν)->Prop
 |[],l=>l=[]
 |e::es,l=>∃k v l',l=(k,v)::l'/\e.key=ek k/\(∃cs,c.rep m v cs/\e.val=pL agg cs)/\MapL ek c agg m es l'
def qAu(es:List MapEntry)(ck:Nat):Prop:=(∀e∈es,e.born<ck)/\(es.map (·.born)).Nodup
def MapQ{κ ν:Type}(ek:κ->Value)(c:Codec ν)(agg:Bool)(m:Mem)(q:Option Nat)(es:Array MapEntry)(ck:Nat)(o:Option (List (κ×ν))):Prop:=
 match q with
 |none=>o=none
 |some _=>∃l l',o=some l/\l'.Perm l/\(l'.map (·.1)).Nodup/\MapL ek c agg m es.toList l'/\qAu es.toList ck
theorem MapL.mono{κ ν:Type}{ek:κ->Value}{c:Codec ν}{agg:Bool}{m m':Mem}(a:m.le m'):∀{es:List MapEntry} {l:List (κ×ν)},MapL ek c agg m es l->MapL ek c agg m' es l
 |[],_,h=>h
 |_::_,_,⟨k,v,l',b,d,⟨cs,e,f⟩,g⟩=>⟨k,v,l',b,d,⟨cs,c.mono _ _ _ _ a e,f⟩,g.mono a⟩
theorem MapQ.mono{κ ν:Type}{ek:κ->Value}{c:Codec ν}{agg:Bool}{m m':Mem}{q:Option Nat}{es:Array MapEntry}{ck:Nat}{o:Option (List (κ×ν))}(h:MapQ ek c agg m q es ck o)(a:m.le m'):MapQ ek c agg m' q es ck o:=by
 cases q with
 |none=>exact h
 |some b=>obtain⟨l,l',d,e,f,g,k⟩:=h;exact⟨l,l',d,e,f,g.mono a,k⟩
def DU{κ:Type}[DecidableEq κ](k:κ):List κ->List MapEntry->Nat->Option (Nat×Value)
 |k'::ks,e::es,i=>if k=k' then some (i,e.val) else DU k ks es (i+1)
 |_,_,_=>none
structure KeyOK{κ:Type}[DecidableEq κ](P:Program)(kt:TypeId)(ek:κ->Value):Prop where
 find:∀(k:κ) (ks:List κ) (es:List MapEntry) (w:World),es.map (·.key)=ks.map ek->(Instr.findKey kt (ek k) es).run P w= .ok (DU k ks es 0) w
 chk:∀(e:Bool) (a:κ) (w:World),(Instr.checkKey e 10000 kt (ek a)).run P w= .ok () w
 stay:∀(a:κ) (w:World),(Instr.keyThatStays (ek a) (ek a)).run P w= .ok (ek a) w
 inj:∀a b,ek a=ek b->a=b
theorem qLk(a b:Int):(a==b)=decide (a=b):=by rw[kK];simp
theorem UX(a b:BA):(a==b)=decide (a=b):=by
 rw[kK]
 have:=Go.MapKept.bytes_beq a b
 simpa using this
theorem VG{κ:Type}[DecidableEq κ]{dd:TypeDesc}{ek:κ->Value}(c:∀a b,Instr.sameNow dd (ek a) (ek b)=some (decide (a=b)))(k:κ):∀(ks:List κ) (es:List MapEntry) (j:Nat),es.map (·.key)=ks.map ek->Instr.findNow dd (ek k) es j=some (DU k ks es j)
 |[],[],j,_=>rfl
 |[],e::es,j,h=>by simp at h
 |k'::ks,[],j,h=>by simp at h
 |k'::ks,e::es,j,h=>by
  simp only[kG,kV] at h
  simp only[Instr.findNow,h.1,c,DU]
  by_cases hkk:k=k'
  .subst hkk;simp
  simp only[hkk,decide_false,jI]
  exact VG c k ks es (j+1) h.2
theorem qMt{P:Program}{kt:TypeId}{q q':IntKind}(h:P.underlying kt=some (.int q))(e:Bool)(z:Int)(w:World):∀n,(Instr.checkKey e (n+1) kt (.int q' z)).run P w= .ok () w:=fun n=>by simp[Instr.checkKey,run_underlying h]
theorem qNz{P:Program}{kt:TypeId}(h:P.underlying kt=some .string)(e:Bool)(z:BA)(w:World):∀n,(Instr.checkKey e (n+1) kt (.string z)).run P w= .ok () w:=fun n=>by simp[Instr.checkKey,run_underlying h]
theorem ZY{κ:Type}[DecidableEq κ]{P:Program}{kt:TypeId}{ek:κ->Value}{d:TypeDesc}(o:P.underlying kt=some d)(c:∀a b,Instr.sameNow d (ek a) (ek b)=some (decide (a=b)))
  (l:∀(e:Bool) (a:κ) (w:World),(Instr.checkKey e 10000 kt (ek a)).run P w= .ok () w) (g:∀n a,Instr.sameBits n (ek a) (ek a)=true):KeyOK P kt ek where
 find k ks es w h:=by simp[Instr.findKey,run_underlying o,VG c k ks es 0 h]
 chk:=l
 stay a w:=by simp[Instr.keyThatStays,g]
 inj a b h:=by
  have f:=c a b
  rw[h,c b b] at f
  simpa using f.symm
theorem lW{P:Program}{kt:TypeId}{q:IntKind}(h:P.underlying kt=some (.int q)):KeyOK P kt (fun n:Int=>Value.int q n):=
 ZY h (fun a b=>by simp[Instr.sameNow];exact qLk a b) (fun e v w=>qMt h e v w 9999) (fun n a=>by cases n<;>simp[Instr.sameBits])
theorem LT{P:Program}{kt:TypeId}(h:P.underlying kt=some .string):KeyOK P kt (fun s:BA=>Value.string s):=
 ZY h (fun a b=>by simp[Instr.sameNow];exact UX a b) (fun e v w=>qNz h e v w 9999) (fun n a=>by cases n<;>simp[Instr.sameBits,UX])
section
variable {m:Mem} {κ ν:Type} {ek:κ->Value} {c:Codec ν} {agg:Bool}
theorem MapL.snoc:∀{es:List MapEntry} {l:List (κ×ν)} {e:MapEntry} {k:κ} {y:ν} {cs:List Value},MapL ek c agg m es l->e.key=ek k->c.rep m y cs->e.val=pL agg cs->MapL ek c agg m (es++[e]) (l++[(k,y)])
 |[],l,e,k,y,cs,h,a,b,d=>by
  simp only[MapL] at h;subst h
  exact⟨k,y,[],rfl,a,⟨cs,b,d⟩,rfl⟩
 |e'::es,l,e,k,y,cs,⟨k',v',l',f,g,n,o⟩,a,b,d=>by
  subst f
  exact⟨k',v',l'++[(k,y)],rfl,g,n,o.snoc a b d⟩
theorem GU:∀{es:List MapEntry} {l:List (κ×ν)},MapL ek c agg m es l->es.map (·.key)=(l.map (·.1)).map ek
 |[],l,h=>by simp only[MapL] at h;subst h;rfl
 |e::es,l,⟨k',v',l',a,b,_,d⟩=>by subst a;simp only[kG,b,GU d]
theorem MapQ.new(ek:κ->Value)(c:Codec ν)(agg:Bool)(m:Mem)(b:Nat):MapQ ek c agg m (some b) #[] 0 (some []):=⟨[],[],rfl,.refl _,by simp,rfl,by simp[qAu]⟩
theorem MapQ.nil(ek:κ->Value)(c:Codec ν)(agg:Bool)(m:Mem)(es:Array MapEntry)(ck:Nat):MapQ ek c agg m none es ck (none:Option (List (κ×ν))):=rfl
end
section
variable {P:Program} {n:Fr} {ops:Array Oper} {Q:Exit->Act->World->Prop} {i d:Nat} {L:bJ} {w:World} {m:Mem} {own:List Piece} {N:bJ->World->Prop}
variable {κ ν:Type} [DecidableEq κ] {ek:κ->Value} {c:Codec ν} {agg:Bool}
theorem KK(k:κ):∀(es:List MapEntry) (l:List (κ×ν)) (j:Nat),MapL ek c agg m es l->
  ∃r,DU k (l.map (·.1)) es j=r/\match r with
   |none=>dR l k=none/\pV l k=fun v=>l++[(k,v)]
   |some (q,v)=>∃x cs,dR l k=some x/\c.rep m x cs/\v=pL agg cs/\j<=q/\q<j+es.length/\(∃e,es[q-j]? =some e/\e.key=ek k)/\
     ∀(y:ν) (cs':List Value) (f:MapEntry->MapEntry),c.rep m y cs'->(∀e,(f e).key=ek k/\(f e).val=pL agg cs')->MapL ek c agg m (es.modify (q-j) f) (pV l k y)
 |[],l,j,h=>by
  simp only[MapL] at h;subst h
  exact⟨none,rfl,rfl,by funext v;rfl⟩
 |e::es,l,j,h=>by
  obtain⟨k',v',l',rfl,p,⟨cs,s,t⟩,u⟩:=h
  simp only[kG,DU]
  by_cases hkk:k=k'
  .subst hkk
   simp only[jJ]
   refine⟨_,rfl,v',cs,by simp[dR],s,t,jT _,by simp,⟨e,by simp,p⟩,?_⟩
   intro y cs' f n b
   simp only[Nat.sub_self,List.modify_zero_cons,pV,jJ]
   exact⟨k,y,l',rfl,(b e).1,⟨cs',n,(b e).2⟩,u⟩
  simp only[hkk,jI]
  obtain⟨r,G,a⟩:=KK k es l' (j+1) u
  refine⟨r,G,?_⟩
  cases r with
  |none=>
   obtain⟨d,g⟩:=a
   exact⟨by simp[dR,hkk,d],by funext v;simp[pV,hkk,g]⟩
  |some qv=>
   obtain⟨q,v⟩:=qv
   obtain⟨x,o,d,g,B,H,K,⟨A,D,E⟩,F⟩:=a
   have z:q-j=(q-(j+1))+1:=by omega
   refine⟨x,o,by simp[dR,hkk,d],g,B,by omega,by simp;omega,⟨A,by rw[z];simpa using D,E⟩,?_⟩
   intro y cs' f n b
   rw[z]
   simp only[List.modify_succ_cons,pV,if_neg hkk]
   exact⟨k',v',_,rfl,p,⟨cs,s,t⟩,F y cs' f n b⟩
def DI(P:Program)(t:TypeId):Option (TypeId×TypeId×Value):=
 match P.underlying t with
 |some (.map k e)=>match P.info? e with
  |some i=>i.zero.map fun z=>(k,e,z)
  |none=>none
 |_=>none
theorem NM{t kt et:TypeId}{z:Value}(h:DI P t=some (kt,et,z)):P.underlying t=some (.map kt et)/\∀w:World,(zeroValue et).run P w= .ok z w:=by
 unfold DI at h
 split at h
 .rename_i k e he
  split at h
  .rename_i inf hi
   obtain⟨z',b,a⟩:=kT.1 h
   simp only[Prod.mk.injEq] at a
   obtain⟨rfl,rfl,rfl⟩:=a
   exact⟨he,fun w=>by simp[zeroValue,typeInfo,hi,b]⟩
  cases h
 cases h
def dT(q:Option Nat)(es:Array MapEntry)(ck:Nat):Piece:=
 match q with
 |none=> .room none 0 0 0 0
 |some b=> .blk b (.map es ck)
def dJ(o:Option (List (κ×ν)))(k:κ):Option ν:=o.bind fun l=>dR l k
def iM[KOrd κ](o:Option (List (κ×ν)))(k:κ)(v:ν):Option (Option (List (κ×ν))):=o.map fun l=>some (mset l k v)
theorem GQ{t:TypeId}(c:cL ops L i=some (some d,.makeMap t none))(a:Nat.blt d n=true)(st:St m own w)
  (h:∀b w',St m (dT (some b) #[] 0::own) w'->N ((d,.map (some b))::L) w'):dN P n ops Q i N L w:=by
 refine lL (w':=w.alloc (.map #[] 0)) c a (fun q e=> ?_) (h w.heap.size _ (st.alloc ⟨⟨rfl,rfl⟩,rfl,mK⟩ rfl))
 simp[execOp,e,Instr.makeMap]
theorem qGx{t kt et:TypeId}{z:Value}(D:DI P t=some (kt,et,z))(p:KeyOK P kt ek){q:Option Nat}{es:Array MapEntry}{ck:Nat}{o:Option (List (κ×ν))}(F:Piece.holds m w (dT q es ck))(g:MapQ ek c agg m q es ck o)
  {zx:ν} {zcs:List Value} (G:c.rep m zx zcs) (B:z=pL agg zcs) (k:κ) (ok:Bool):
  ∃cs,c.rep m ((dJ o k).getD zx) cs/\(Instr.lookup t (.map q) (ek k) ok).run P w= .ok (bif ok then .tuple #[pL agg cs,.bool (dJ o k).isSome] else pL agg cs) w:=by
 obtain⟨u,y⟩:=NM D
 have main:∀(es:List MapEntry) (l:List (κ×ν)),MapL ek c agg m es l->∃cs r,c.rep m ((dR l k).getD zx) cs/\(Instr.findKey kt (ek k) es).run P w= .ok r w/\
   (match r with|some (_,v)=>v=pL agg cs/\(dR l k).isSome=true|none=>pL agg cs=z/\(dR l k).isSome=false):=by
  intro es l h
  obtain⟨r,g,d⟩:=KK (c:=c) (agg:=agg) k es l 0 h
  cases r with
  |none=>exact⟨zcs,none,by simp[d.1,G],by rw[p.find k _ es w (GU h),g],B.symm,by simp[d.1]⟩
  |some qv=>
   obtain⟨q,v⟩:=qv
   obtain⟨x,cs,e,f,a,_⟩:=d
   exact⟨cs,some (q,v),by simp[e,f],by rw[p.find k _ es w (GU h),g],a,by simp[e]⟩
 cases q with
 |none=>
  simp only[MapQ] at g
  subst g
  obtain⟨cs,r,e,f,a⟩:=main [] [] rfl
  refine⟨cs,by simpa[dJ,dR] using e,?_⟩
  have n:=p.chk true k w
  cases r with
  |none=>cases ok<;>simp[Instr.lookup,run_underlying u,n,f,y,a.1,dJ]
  |some r=>simp[dR] at a
 |some b=>
  obtain⟨H,l,rfl,s,A,h,_⟩:=g
  obtain⟨cs,r,e,f,a⟩:=main es.toList l h
  rw[WB s A] at e a
  refine⟨cs,by simpa[dJ] using e,?_⟩
  have E:w.heap[b]? =some (.map es ck):=F.1
  have d:(getObj b).run P w= .ok (.map es ck) w:=by simp[getObj,Sem.run,E]
  have n:=p.chk es.isEmpty k w
  cases r with
  |none=>cases ok<;>simp[Instr.lookup,run_underlying u,d,n,f,y,a.1,a.2,dJ]
  |some r=>
   obtain⟨_,v⟩:=r
   cases ok<;>simp[Instr.lookup,run_underlying u,d,n,f,a.1,a.2,dJ]
theorem yU{t kt et:TypeId}{z:Value}{x y:Operand}{q:Option Nat}{es:Array MapEntry}{ck:Nat}{o:Option (List (κ×ν))}{k:κ}{ok:Bool}(p:cL ops L i=some (some d,.lookup t x y ok))(g:Nat.blt d n=true)
  (v:bL L x=some (.map q)) (A:bL L y=some (ek k)) (f:DI P t=some (kt,et,z)) (l:KeyOK P kt ek) (r:Piece.holds m w (dT q es ck)) (u:MapQ ek c agg m q es ck o)
  {zx:ν} {zcs:List Value} (B:c.rep m zx zcs) (a:z=pL agg zcs)
  (h:∀cs,c.rep m ((dJ o k).getD zx) cs->N ((d,bif ok then .tuple #[pL agg cs,.bool (dJ o k).isSome] else pL agg cs)::L) w):dN P n ops Q i N L w:=by
 obtain⟨cs,b,e⟩:=qGx f l r u B a k ok
 refine lL p g (fun q s=> ?_) (h cs b)
 simp[execOp,s,cB v,cB A,e]
theorem VB{b:Nat}{o o':Obj}(a:w.heap[b]? =some o)(c:∀cs e f,o≠ .cells cs e f):(setObj b o').run P w= .ok () {w with heap:=w.heap.setIfInBounds b o'}:=by
 cases o<;>first|(exact absurd rfl (c _ _ _))|simp[setObj,Sem.run,a]
theorem qEl[KOrd κ]{t kt et:TypeId}{z v:Value}{x y u:Operand}{q:Option Nat}{es:Array MapEntry}{ck:Nat}{o o':Option (List (κ×ν))}{k:κ}{yv:ν}{cs:List Value}(ho:cL ops L i=some (none,.mapUpdate t x y u))
  (hx:bL L x=some (.map q)) (hy:bL L y=some (ek k)) (hu:bL L u=some v) (hI:DI P t=some (kt,et,z)) (F:KeyOK P kt ek) (st:St m (dT q es ck::own) w) (H:MapQ ek c agg m q es ck o)
  (S:c.rep m yv cs) (hv:v=pL agg cs) (Z:iM o k yv=some o')
  (h:∀es' ck' w',St m (dT q es' ck'::own) w'->MapQ ek c agg m q es' ck' o'->N L w'):dN P n ops Q i N L w:=by
 obtain⟨V,h2⟩:=NM hI
 cases q with
 |none=>simp only[MapQ] at H;subst H;simp[iM] at Z
 |some b=>
  obtain⟨l0,l,rfl,s,g,Y,D,R⟩:=H
  simp only[iM,gO,jL] at Z
  subst Z
  have B:w.heap[b]? =some (.map es ck):=st.head.1
  have a0:=sT B
  have E:(getObj b).run P w= .ok (.map es ck) w:=by simp[getObj,Sem.run,B]
  have K:∀o',(setObj b o').run P w= .ok () {w with heap:=w.heap.setIfInBounds b o'}:=fun o'=>VB B (by simp)
  have G:∀o',St m (.blk b o'::own) {w with heap:=w.heap.setIfInBounds b o'}:=fun o'=>
   St.set (o:= .map es ck) st ⟨⟨rfl,rfl⟩,rfl,mK⟩ (by simp[a0]) (fun k _ F=>by simp[Array.getElem?_setIfInBounds,Ne.symm F])
  have hc:=F.chk false k w
  obtain⟨r,H,A⟩:=KK (c:=c) (agg:=agg) k es.toList l 0 Y
  have f:(Instr.findKey kt (ek k) es.toList).run P w= .ok r w:=by rw[F.find k _ es.toList w (GU Y),H]
  cases r with
  |none=>
   obtain⟨g1,g2⟩:=A
   refine zM ho (fun q hq=> ?_) (h (es.push {key:=ek k,val:=v,born:=ck}) (ck+1) _ (G _) ⟨_,pV l k yv,rfl,KG s g k yv,KD g k yv,?_,?_,?_⟩)
   .simp[execOp,hq,cB hx,cB hy,cB hu,Instr.mapUpdate,run_underlying V,E,hc,f,K]
   .rw[g2,fQ]
    exact Y.snoc rfl S hv
   .intro e d
    rw[fQ,gP] at d
    rcases d with d|d
    .have:=D e d;omega
    simp at d;subst d;simp
   rw[fQ,fB,List.nodup_append]
   refine⟨R,by simp,?_⟩
   intro a ha b B e
   simp at B;subst B e
   obtain⟨U,M,a1⟩:=fT.1 ha
   have:=D U M
   omega
  |some qv=>
   obtain⟨q,v0⟩:=qv
   obtain⟨x0,a1,g1,g2,g3,g4,g5,⟨U,g6,g7⟩,g8⟩:=A
   have d:es[q]? =some U:=by simpa using g6
   have M:(Instr.keyThatStays (ek k) (ek k)).run P w= .ok (ek k) w:=F.stay k w
   refine zM ho (fun p hp=> ?_) (h (es.modify q fun e=>{e with key:=ek k,val:=v}) ck _ (G _) ⟨_,pV l k yv,rfl,KG s g k yv,KD g k yv,?_,?_,?_⟩)
   .simp[execOp,hp,cB hx,cB hy,cB hu,Instr.mapUpdate,run_underlying V,E,hc,f,d,g7,M,K]
   .rw[fE]
    have:=g8 yv cs (fun e=>{e with key:=ek k,val:=v}) S (fun e=>⟨rfl,hv⟩)
    simpa using this
   .intro e d
    rw[fE] at d
    obtain⟨j,hj,rfl⟩:=List.mem_iff_getElem.1 d
    rw[hK]
    have hj':j<es.toList.length:=by simpa using hj
    have:=D es.toList[j] (jN hj')
    split
    .exact this
    exact this
   rw[fE]
   have:(es.toList.modify q fun e=>{e with key:=ek k,val:=v}).map (·.born)=es.toList.map (·.born):=by
    apply List.ext_getElem
    .simp
    intro j V h2
    simp only[List.getElem_map,hK]
    split<;>rfl
   rw[this];exact R
theorem nB[KOrd κ]{t kt et:TypeId}{z v:Value}{x y u:Operand}{q:Option Nat}{es:Array MapEntry}{ck:Nat}{o o':Option (List (κ×ν))}{k:κ}{yv:ν}{cs:List Value}(ho:cL ops L i=some (none,.insert t x y u))
  (hx:bL L x=some (.map q)) (hy:bL L y=some (ek k)) (hu:bL L u=some v) (hI:DI P t=some (kt,et,z)) (F:KeyOK P kt ek) (st:St m (dT q es ck::own) w) (H:MapQ ek c agg m q es ck o)
  (S:c.rep m yv cs) (hv:v=pL agg cs) (Z:iM o k yv=some o')
  (h:∀es' ck' w',St m (dT q es' ck'::own) w'->MapQ ek c agg m q es' ck' o'->N L w'):dN P n ops Q i N L w:=by
 obtain⟨V,h2⟩:=NM hI
 cases q with
 |none=>simp only[MapQ] at H;subst H;simp[iM] at Z
 |some b=>
  obtain⟨l0,l,rfl,s,g,Y,D,R⟩:=H
  simp only[iM,gO,jL] at Z
  subst Z
  have B:w.heap[b]? =some (.map es ck):=st.head.1
  have a0:=sT B
  have E:(getObj b).run P w= .ok (.map es ck) w:=by simp[getObj,Sem.run,B]
  have K:∀o',(setObj b o').run P w= .ok () {w with heap:=w.heap.setIfInBounds b o'}:=fun o'=>VB B (by simp)
  have G:∀o',St m (.blk b o'::own) {w with heap:=w.heap.setIfInBounds b o'}:=fun o'=>
   St.set (o:= .map es ck) st ⟨⟨rfl,rfl⟩,rfl,mK⟩ (by simp[a0]) (fun k _ F=>by simp[Array.getElem?_setIfInBounds,Ne.symm F])
  have hc:=F.chk false k w
  obtain⟨r,H,A⟩:=KK (c:=c) (agg:=agg) k es.toList l 0 Y
  have f:(Instr.findKey kt (ek k) es.toList).run P w= .ok r w:=by rw[F.find k _ es.toList w (GU Y),H]
  cases r with
  |none=>
   obtain⟨g1,g2⟩:=A
   refine zM ho (fun q hq=> ?_) (h (es.push {key:=ek k,val:=v,born:=ck}) (ck+1) _ (G _) ⟨_,pV l k yv,rfl,KG s g k yv,KD g k yv,?_,?_,?_⟩)
   .simp[execOp,hq,cB hx,cB hy,cB hu,Instr.mapUpdate,run_underlying V,E,hc,f,K]
   .rw[g2,fQ]
    exact Y.snoc rfl S hv
   .intro e d
    rw[fQ,gP] at d
    rcases d with d|d
    .have:=D e d;omega
    simp at d;subst d;simp
   rw[fQ,fB,List.nodup_append]
   refine⟨R,by simp,?_⟩
   intro a ha b B e
   simp at B;subst B e
   obtain⟨U,M,a1⟩:=fT.1 ha
   have:=D U M
   omega
  |some qv=>
   obtain⟨q,v0⟩:=qv
   obtain⟨x0,a1,g1,g2,g3,g4,g5,⟨U,g6,g7⟩,g8⟩:=A
   have d:es[q]? =some U:=by simpa using g6
   have M:(Instr.keyThatStays (ek k) (ek k)).run P w= .ok (ek k) w:=F.stay k w
   refine zM ho (fun p hp=> ?_) (h (es.modify q fun e=>{e with key:=ek k,val:=v}) ck _ (G _) ⟨_,pV l k yv,rfl,KG s g k yv,KD g k yv,?_,?_,?_⟩)
   .simp[execOp,hp,cB hx,cB hy,cB hu,Instr.mapUpdate,run_underlying V,E,hc,f,d,g7,M,K]
   .rw[fE]
    have:=g8 yv cs (fun e=>{e with key:=ek k,val:=v}) S (fun e=>⟨rfl,hv⟩)
    simpa using this
   .intro e d
    rw[fE] at d
    obtain⟨j,hj,rfl⟩:=List.mem_iff_getElem.1 d
    rw[hK]
    have hj':j<es.toList.length:=by simpa using hj
    have:=D es.toList[j] (jN hj')
    split
    .exact this
    exact this
   rw[fE]
   have:(es.toList.modify q fun e=>{e with key:=ek k,val:=v}).map (·.born)=es.toList.map (·.born):=by
    apply List.ext_getElem
    .simp
    intro j V h2
    simp only[List.getElem_map,hK]
    split<;>rfl
   rw[this];exact R
end
end Go.Dc
namespace Go.Dc
section
variable {P:Program} {n:Fr} {ops:Array Oper} {Q:Exit->Act->World->Prop} {i d:Nat} {L:bJ} {w:World} {m:Mem} {own:List Piece} {N:bJ->World->Prop}
variable {α:Type} {f:α->Value}
def rR(by_:Nat)(z:α)(k:Int):Option (List α):=if 0<=k/\k*by_<=140737488355328/\k<=maxLen then some (List.replicate k.toNat z) else none
def iE(f:α->Value)(l:List α)(T:List Value):Array Value:=(l.map f++T).toArray
theorem NT{t e by_:Nat}{x y:Operand}{z:α}{k:Int}{kd B:IntKind}{l:List α}(f:α->Value)(E:cL ops L i=some (some d,.makeSlice t x y))(D:Nat.blt d n=true)(M:bL L x=some (.int kd k))(R:bL L y=some (.int B k))
  (hi:sD P t=some (e,1,by_,1)) (r:(P.info? e).bind (·.zero)=some (f z)) (F:(f z).oneCell'=true) (st:St m own w) (g:rR by_ z k=some l)
  (h:∀b w',List.length l=Int.toNat k->St m (.blk b (.cells (iE f l []) e (0,0))::own) w'->N ((d,.slice (some ⟨b,0,none⟩) (Int.toNat k) (Int.toNat k))::L) w'):dN P n ops Q i N L w:=by
 obtain⟨H,inf,zv,a,p,A,v,U⟩:=NI hi
 rw[a] at r
 simp only[j0,p,jL] at r
 subst r
 unfold rR at g
 split at g
 .rename_i hk
  obtain⟨Y,Z,k3⟩:=hk
  simp only[jL] at g;subst g
  have S:(maxLen:Int)=9223372036854775807:=rfl
  have K:IntKind.i64.wrap k=k:=by simp[IntKind.wrap,IntKind.signed,IntKind.bits];omega
  have k2':¬(281474976710656<(by_:Int)*k):=by rw[Int.mul_comm];omega
  have c:(f z).cells= #[f z]:=by cases hv:f z<;>simp_all [Value.cells,Value.oneCell']
  have u:iE f (List.replicate k.toNat z) []=((List.replicate k.toNat z).map f).toArray:=by simp[iE]
  refine lL (w':=w.alloc (.cells ((List.replicate k.toNat z).map f).toArray e)) E D (fun q G=> ?_) (h w.heap.size _ (by simp) (by rw[u];exact st.alloc ⟨⟨rfl,rfl⟩,rfl,mK⟩ rfl))
  simp only[execOp,G,cB M,cB R,Instr.makeSlice,Sem.run_bind,run_underlying H,Result.andThen_ok,asInt,asIntOf,typeInfo,run_program,a,Sem.run_pure,K,v]
  have s:¬(k<0):=by omega
  have o:(decide (k<0)||decide ((by_:Int)*k>2^48)||decide (k<0)||decide (k>k))=false:=by simp[s];omega
  simp only[o,jB,jI,run_askRoom,Result.andThen_ok,sizeOf,typeInfo,Sem.run_bind,run_program,a,Sem.run_pure,A,Nat.mul_one]
  by_cases h0:k.toNat=0
  .simp[h0,newRow]
   congr 2
   first|rfl|simp
  simp[h0,zeroValue,typeInfo,a,p,c,newRow,Nat.mod_one]
  congr 2
  apply Array.ext
  .simp
  intro j s V;simp
 cases g
theorem qN{t e:TypeId}{x y:Operand}{b nn cc:Nat}{l:List α}{k:IntKind}{ix:Int}{z:α}(p:cL ops L i=some (some d,.indexAddr t x y))(o:Nat.blt d n=true)
  (s:bL L x=some (.slice (some ⟨b,0,none⟩) nn cc)) (u:bL L y=some (.int k ix)) (hi:qR P t=some (e,1)) (A:List.length l=nn) (a:idx l ix=some z)
  (h:N ((d,.pointer (some ⟨b,ix.toNat,none⟩))::L) w):dN P n ops Q i N L w:=by
 obtain⟨c,inf,f,g⟩:=CF hi
 unfold idx at a
 split at a
 .rename_i h0
  have v:ix.toNat<l.length:=(List.getElem?_eq_some_iff.1 a).1
  refine lL p o (fun q r=> ?_) h
  have hlt':ix<(nn:Int):=by omega
  simp[execOp,r,Instr.indexAt,cB s,cB u,asIntOf,run_underlying c,h0,hlt',sizeOf,typeInfo,f,g,wQ]
 cases a
theorem qGf{l:List α}{T:List Value}{j:Nat}{z:α}(h:l[j]? =some z):(iE f l T)[j]? =some (f z):=by
 have a:=(List.getElem?_eq_some_iff.1 h).1
 simp only[iE,List.getElem?_toArray]
 rw[List.getElem?_append_left (by simpa using a)]
 simp[h]
theorem yT{t e:TypeId}{x:Operand}{b:Nat}{l:List α}{T:List Value}{ix:Int}{z:α}{fr:Nat×Nat}(r:cL ops L i=some (some d,.load t x))(k:Nat.blt d n=true)
  (B:bL L x=some (.pointer (some ⟨b,ix.toNat,none⟩))) (s:Piece.holds m w (.blk b (.cells (iE f l T) e fr))) (c:idx l ix=some z) (A:oH P t [f z]=some (f z))
  (h:N ((d,f z)::L) w):dN P n ops Q i N L w:=by
 unfold idx at c
 split at c
 .refine lL r k (fun q y=> ?_) h
  have g:=s.1
  have p:=zD (P:=P) (w:=w) (t:=t) (b:=b) (o:=ix.toNat) (cs:=[f z]) (v:=f z) (fun j u a=>by
   match j,a with
   |0,a=>
    simp at a;subst a
    simp[World.cell?,g,qGf c]) A
  simp[execOp,y,Instr.loadAt,cB B,Instr.sureAddr,p]
 cases c
theorem yQ{t e:TypeId}{x y:Operand}{b:Nat}{l:List α}{T:List Value}{ix:Int}{z u:α}(A:cL ops L i=some (none,.store t x y))
  (D:bL L x=some (.pointer (some ⟨b,ix.toNat,none⟩))) (E:bL L y=some (f u)) (st:St m (.blk b (.cells (iE f l T) e (0,0))::own) w) (g:idx l ix=some z) (p:(f u).oneCell'=true) (d:(P.info? t).map (·.size)=some 1)
  (h:∀w',St m (.blk b (.cells (iE f (l.set ix.toNat u) T) e (0,0))::own) w'->N L w'):dN P n ops Q i N L w:=by
 unfold idx at g
 split at g
 .have s:ix.toNat<l.length:=(List.getElem?_eq_some_iff.1 g).1
  have c:(f u).cells= #[f u]:=by cases hv:f u<;>simp_all [Value.cells,Value.oneCell']
  have r:=st.head.1
  have a:=run_storeCells_at P b ix.toNat e [f u] 0 (iE f l T) w r (by simp[iE];omega) (by simp[p])
  simp only[fA] at a
  have o:((iE f l T).toList.take ix.toNat++[f u]++(iE f l T).toList.drop (ix.toNat+[f u].length)).toArray=iE f (l.set ix.toNat u) T:=by
   apply congrArg List.toArray
   simp only[iE,hJ]
   rw[List.map_set,List.set_eq_take_append_cons_drop,if_pos (by simpa using s)]
   rw[kU (by simp;omega),gG (by simp;omega)]
   simp
  rw[o] at a
  cases hi:P.info? t with
  |none=>simp[hi] at d
  |some inf=>
   simp only[hi,gO,jL] at d
   refine zM A (fun q B=> ?_) (h (w.setRow b (iE f (l.set ix.toNat u) T)) (st.set ⟨⟨rfl,rfl⟩,rfl,mK⟩ (setRow_heap w b (iE f l T) _ e _ r) (fun k _ v=>setRow_other w b k _ v)))
   simp[execOp,B,Instr.storeAt,cB D,cB E,Instr.sureAddr,storeVar,sizeOf,typeInfo,hi,c,d,a]
 cases g
theorem St.freeze{c:Codec α}{b e nn cc:Nat}{l:List α}{T:List Value}(st:St m (.blk b (.cells (iE f l T) e (0,0))::own) w)(F:List.length l=nn)(D:nn<=cc)(a:cc<=maxLen)(y:(iE f l T).size=cc)(g:c.sz=1)(z:∀m x,c.rep m x [f x]):
  ∃m',m.le m'/\St m' (.room (some ⟨b,0,none⟩) (List.length l) cc e 1::own) w/\RepS c m' (some ⟨b,0,none⟩) cc l:=by
 have h:(iE f l T).toList.take (l.map f).length=l.map f:=by simp[iE]
 obtain⟨m',q,r,s,t,u,E⟩:=St.know (b:=b) (cs:=l.map f) st.tail (st.head_ne rfl) st.head.1 h (fun o v n=>by rw[st.head.2.1 o] at n;cases n)
 refine⟨m',q,r.cons ⟨rfl,rfl,by omega,a,⟨_,st.head.1,by rw[y,Nat.mul_one]⟩,fun o B=>t o (by simpa using B),by rw[u];exact st.head.2.2⟩ ?_,?_⟩
 .intro k d;simp[Piece.block] at d;subst d;exact st.head_ne rfl
 exact RepS.of_cells (cs:=l.map f) (by omega) a (fun j x p=>by
  have d:=(List.getElem?_eq_some_iff.1 p).1
  have A:=(List.getElem?_eq_some_iff.1 p).2
  rw[g,Nat.mul_one,<-List.map_drop,<-List.map_take,kH d,A]
  exact z m' x) s
theorem qIu{by_:Nat}{z:α}{k:Int}{l:List α}(h:rR by_ z k=some l):k.toNat<=maxLen:=by
 unfold rR at h
 split at h
 .rename_i hk;have:=hk.2.2;have a:(maxLen:Int)=9223372036854775807:=rfl;omega
 cases h
theorem qFe{l:List α}{T:List Value}{nn cc:Nat}(h:List.length l=nn)(a:nn+T.length=cc):(iE f l T).size=cc:=by simp[iE];omega
end
end Go.Dc
namespace Go.Dc
theorem lM{α:Type}{l:List α}{n:Nat}(h:List.length l=n)(i:Nat)(a:α):List.length (List.set l i a)=n:=by rw[gE];exact h
end Go.Dc
end
namespace Go.Dc
section
def iU{α σ β:Type}(f:Option α->σ->Option (σ⊕β)):List α->σ->Option β
 |[],s=>(f none s).bind fun
  | .inl _=>none
  | .inr b=>some b
 |e::l,s=>(f (some e) s).bind fun
  | .inl s'=>iU f l s'
  | .inr b=>some b
def HS{α:Type}(x:α):List α->List (List α)
 |[]=>[[x]]
 |y::l=>(x::y::l)::(HS x l).map (y:: ·)
def vL{α:Type}:List α->List (List α)
 |[]=>[[]]
 |x::l=>(vL l).flatMap (HS x)
theorem KE{α:Type}{x:α}:∀{l k:List α},k∈HS x l↔∃a b,l=a++b/\k=a++x::b
 |[],k=>by
  simp only[HS,kI]
  constructor
  .rintro rfl;exact⟨[],[],rfl,rfl⟩
  rintro⟨a,b,h,rfl⟩
  simp only[List.nil_eq,gX] at h
  obtain⟨rfl,rfl⟩:=h;rfl
 |y::l,k=>by
  simp only[HS,jR,fT]
  constructor
  .rintro(rfl|⟨k',c,rfl⟩)
   .exact⟨[],y::l,rfl,rfl⟩
   obtain⟨a,b,rfl,rfl⟩:=KE.1 c
   exact⟨y::a,b,rfl,rfl⟩
  rintro⟨a,b,h,rfl⟩
  cases a with
  |nil=>left;simp only[jQ] at h;rw[<-h];rfl
  |cons z a=>
   simp only[jO,kV] at h
   obtain⟨rfl,rfl⟩:=h
   right
   exact⟨a++x::b,KE.2 ⟨a,b,rfl,rfl⟩,rfl⟩
theorem OG{α:Type}:∀{l k:List α},k.Perm l->k∈vL l
 |[],k,h=>by rw[List.perm_nil] at h;subst h;simp[vL]
 |x::l,k,h=>by
  have c:x∈k:=h.mem_iff.2 (jH ..)
  obtain⟨a,b,rfl⟩:=List.append_of_mem c
  have h':(a++b).Perm l:=(fC.symm.trans h).cons_inv
  simp only[vL,dF]
  exact⟨a++b,OG h',KE.2 ⟨a,b,rfl,rfl⟩⟩
theorem US{α:Type}:∀{l k:List α},k∈vL l->k.Perm l
 |[],k,h=>by simp[vL] at h;subst h;exact .refl _
 |x::l,k,h=>by
  simp only[vL,dF] at h
  obtain⟨k',c,d⟩:=h
  obtain⟨a,b,rfl,rfl⟩:=KE.1 d
  exact fC.trans ((US c).cons x)
class Triv(σ:Type) where
 one:Bool
 eq:one=true->∀a b:σ,a=b
instance trivNo{σ:Type}:Triv σ:=⟨false,fun h=>by cases h⟩
instance trivU:Triv Unit:=⟨true,fun _ _ _=>rfl⟩
def RR{α σ β:Type}[DecidableEq β][Triv σ](f:Option α->σ->Option (σ⊕β))(l:List α)(s:σ)(b:β):Bool:=
 Triv.one σ&&l.all fun x=>match f (some x) s with
  |some (.inl _)=>true
  |some (.inr c)=>decide (c=b)
  |none=>false
theorem NY{α σ β:Type}{f:Option α->σ->Option (σ⊕β)}{s:σ}{b:β}(o:∀a c:σ,a=c):∀k:List α,(∀x∈k,(∃s',f (some x) s=some (.inl s'))\/f (some x) s=some (.inr b))->
  (iU f k s=some b/\∃x∈k,f (some x) s=some (.inr b))\/iU f k s=iU f [] s/\∀x∈k,f (some x) s≠some (.inr b)
 |[],_=> .inr ⟨rfl,by simp⟩
 |x::k,h=>by
  rcases h x (jH ..) with ⟨s',g⟩|g
  .have e:iU f (x::k) s=iU f k s:=by rw[iU,g,o s' s];rfl
   rcases NY o k fun y d=>h y (jK _ d) with ⟨l,y,d,n⟩|⟨l,n⟩
   .exact .inl ⟨e.trans l,y,jK _ d,n⟩
   refine .inr ⟨e.trans l,fun y d=> ?_⟩
   rcases jR.1 d with rfl|d
   .rw[g];simp
   exact n y d
  exact .inl ⟨by rw[iU,g];rfl,x,jH ..,g⟩
theorem qKr{α σ β:Type}[DecidableEq β][Triv σ]{f:Option α->σ->Option (σ⊕β)}{l:List α}{s:σ}{b:β}(n:iU f l s=some b)(d:RR f l s b=true)(k:List α)(g:k.Perm l):iU f k s=some b:=by
 unfold RR at d
 rw[jM] at d
 have good:∀x∈l,(∃s',f (some x) s=some (.inl s'))\/f (some x) s=some (.inr b):=fun x a=>by
  have:=kE.1 d.2 x a
  split at this
  .rename_i s' h;exact .inl ⟨s',h⟩
  .rename_i c h;rw[h,gL this];exact .inr rfl
  cases this
 have e:=Triv.eq d.1
 rcases NY e k fun x a=>good x (g.mem_iff.1 a) with h|⟨o,p⟩
 .exact h.1
 rcases NY e l good with ⟨_,x,a,r⟩|⟨q,_⟩
 .exact absurd r (p x (g.mem_iff.2 a))
 rw[o,<-q,n]
def vF{α σ β:Type}[DecidableEq β][Triv σ](f:Option α->σ->Option (σ⊕β))(l:List α)(s:σ):Option β:=
 match iU f l s with
 |none=>none
 |some b=>if(RR f l s b||(vL l).all fun k=>decide (iU f k s=some b))=true then some b else none
theorem qGn{α σ β:Type}[DecidableEq β][Triv σ]{f:Option α->σ->Option (σ⊕β)}{l:List α}{s:σ}{b:β}(h:vF f l s=some b):∀k,k.Perm l->iU f k s=some b:=by
 unfold vF at h
 split at h
 .cases h
 rename_i b' hb
 split at h
 .rename_i a
  simp only[jL] at h;subst h
  intro k c
  rcases fP _ _▸a with d|a
  .exact qKr hb d k c
  have:=kE.1 a k (OG c)
  simpa using this
 cases h
theorem qHw{α σ β:Type}[DecidableEq β][Triv σ]{f:Option α->σ->Option (σ⊕β)}{l:List α}{s:σ}{b:β}(h:∀k,k.Perm l->iU f k s=some b):vF f l s=some b:=by
 unfold vF
 rw[h l (.refl _)]
 simp only
 rw[if_pos]
 rw[fP]
 exact .inr (kE.2 fun k a=>by simpa using h k (US a))
def LoopE{α σ β:Type}(f:Option α->σ->Option (σ⊕β))(rem:List α)(s:σ)(b:β)(k:Nat):Prop:=(∀l,l.Perm rem->iU f l s=some b)/\rem.length<k
theorem LoopE.start{α σ β:Type}[DecidableEq β][Triv σ]{f:Option α->σ->Option (σ⊕β)}{l:List α}{s:σ}{b:β}(h:vF f l s=some b):LoopE f l s b (l.length+1):=⟨qGn h,Nat.lt_succ_self _⟩
theorem LoopE.zero{α σ β:Type}{f:Option α->σ->Option (σ⊕β)}{rem:List α}{s:σ}{b:β}{p:Prop}(h:LoopE f rem s b 0):p:=absurd h.2 (kP _)
theorem LoopE.nil{α σ β:Type}{f:Option α->σ->Option (σ⊕β)}{rem:List α}{s:σ}{b:β}{k:Nat}(h:LoopE f rem s b (k+1))(e:rem=[]):
  ∃c,f none s=some c/\(∀s',c= .inl s'->LoopE f rem s' b k)/\(∀b',c= .inr b'->b'=b):=by
 subst e
 have:=h.1 [] (.refl _)
 simp only[iU] at this
 obtain⟨c,d,a⟩:=jP.1 this
 refine⟨c,d,?_,?_⟩
 .rintro s' rfl;simp at a
 rintro b' rfl;simpa using a
theorem LoopE.cons{α σ β:Type}{f:Option α->σ->Option (σ⊕β)}{rem rest:List α}{e:α}{s:σ}{b:β}{k:Nat}(h:LoopE f rem s b (k+1))(n:rem.Perm (e::rest)):
  ∃c,f (some e) s=some c/\(∀s',c= .inl s'->LoopE f rest s' b k)/\(∀b',c= .inr b'->b'=b):=by
 have p:rem.length=rest.length+1:=by simpa using n.length_eq
 have key:∀l,l.Perm rest->iU f (e::l) s=some b:=fun l a=>h.1 _ ((a.cons e).trans n.symm)
 have d:=key rest (.refl _)
 simp only[iU] at d
 obtain⟨c,g,o⟩:=jP.1 d
 refine⟨c,g,?_,?_⟩
 .rintro s' rfl
  refine⟨fun l a=> ?_,by have:=h.2;omega⟩
  have:=key l a
  simp only[iU,g,j0] at this
  exact this
 rintro b' rfl;simpa using o
def qS(r:Nat)(q:Option Nat)(ck:Nat)(seen:Array Nat):Piece:= .blk r (.mapIter q ck seen ck)
def zY(es:Array MapEntry)(seen:Array Nat):List MapEntry:=es.toList.filter fun e=> !seen.contains e.born
def ItR{κ ν:Type}(ek:κ->Value)(c:Codec ν)(agg:Bool)(m:Mem)(es:Array MapEntry)(seen:Array Nat)(rem:List (κ×ν)):Prop:=∃l',l'.Perm rem/\MapL ek c agg m (zY es seen) l'
def Ent(es:Array MapEntry)(seen:Array Nat)(k v:Value):Prop:=∃(a:Array Nat) (e:MapEntry),seen=a.push e.born/\e∈es.toList/\e.key=k/\e.val=v
theorem ItR.mono{κ ν:Type}{ek:κ->Value}{c:Codec ν}{agg:Bool}{m m':Mem}{es:Array MapEntry}{seen:Array Nat}{rem:List (κ×ν)}(h:ItR ek c agg m es seen rem)(a:m.le m'):ItR ek c agg m' es seen rem:=by
 obtain⟨l',b,d⟩:=h;exact⟨l',b,d.mono a⟩
section
variable {P:Program} {n:Fr} {ops:Array Oper} {Q:Exit->Act->World->Prop} {i d:Nat} {L:bJ} {w:World} {m:Mem} {own:List Piece} {N:bJ->World->Prop}
variable {κ ν:Type} {ek:κ->Value} {c:Codec ν} {agg:Bool}
theorem WF{t kt et:TypeId}{x:Operand}{b:Nat}{es:Array MapEntry}{ck:Nat}{o:Option (List (κ×ν))}(s:cL ops L i=some (some d,.range t x))(k:Nat.blt d n=true)(z:bL L x=some (.map (some b)))
  (y:P.underlying t=some (.map kt et)) (st:St m (dT (some b) es ck::own) w) (v:MapQ ek c agg m (some b) es ck o)
  (h:∀r w',St m (qS r (some b) ck #[]::dT (some b) es ck::own) w'->ItR ek c agg m es #[] (o.getD [])->N ((d,.pointer (some ⟨r,0,none⟩))::L) w'):dN P n ops Q i N L w:=by
 obtain⟨l,l',rfl,a,A,p,B⟩:=v
 have e:(getObj b).run P w= .ok (.map es ck) w:=by
  have f:w.heap[b]? =some (.map es ck):=st.head.1
  simp[getObj,Sem.run,f]
 have g:=st.alloc (w':=w.alloc (.mapIter (some b) ck #[] ck)) (o:= .mapIter (some b) ck #[] ck) ⟨⟨rfl,rfl⟩,rfl,mK⟩ rfl
 have f:∀o,(newObj o).run P w= .ok w.heap.size (w.alloc o):=fun o=>rfl
 refine lL s k (fun q u=> ?_) (h w.heap.size _ g ⟨l',a,by rw[show zY es #[]=es.toList from List.filter_eq_self.2 (fun _ _=>by simp)];exact p⟩)
 simp[execOp,u,cB z,Instr.range,run_underlying y,e,f]
theorem YI:∀{es:List MapEntry} {l:List (κ×ν)} {j:Nat} {e:MapEntry},MapL ek c agg m es l->es[j]? =some e->∃k v cs,l[j]? =some (k,v)/\e.key=ek k/\c.rep m v cs/\e.val=pL agg cs/\MapL ek c agg m (es.eraseIdx j) (l.eraseIdx j)
 |h::es,l,0,e,⟨k,v,l',b,d,⟨cs,f,s⟩,g⟩,a=>by
  simp at a;subst a b
  exact⟨k,v,cs,rfl,d,f,s,by simpa using g⟩
 |h::es,l,j+1,e,⟨k,v,l',b,d,f,g⟩,a=>by
  subst b
  obtain⟨t,u,cs,n,o,p,q,r⟩:=YI g (by simpa using a)
  exact⟨t,u,cs,by simpa using n,o,p,q,by simp only[List.eraseIdx_cons_succ];exact⟨k,v,_,rfl,d,f,r⟩⟩
theorem qEw{es:List MapEntry}(a:(es.map (·.born)).Nodup){seen:Array Nat}{j:Nat}{e:MapEntry}(h:(es.filter fun e=> !seen.contains e.born)[j]? =some e):
  (es.filter fun e'=> !(seen.push e.born).contains e'.born)=(es.filter fun e=> !seen.contains e.born).eraseIdx j:=by
 induction es generalizing j with
 |nil=>simp at h
 |cons x es f=>
  simp only[kG,fM] at a
  simp only[List.filter_cons] at h ⊢
  have b:∀y:MapEntry,(seen.push e.born).contains y.born=(seen.contains y.born||(y.born==e.born)):=fun y=>by
   rw[Array.contains_push]
  by_cases hx:seen.contains x.born=true
  .simp only[hx,gD,jB,jI] at h ⊢
   rw[b,hx]
   simp only[Bool.true_or,gD,jB,jI]
   exact f a.2 h
  have hx':seen.contains x.born=false:=by simpa using hx
  simp only[hx',kQ,jJ] at h ⊢
  rw[b,hx']
  cases j with
  |zero=>
   simp at h
   subst h
   simp only[kX,gQ,gD,jB,jI,List.eraseIdx_cons_zero]
   refine List.filter_congr fun y c=> ?_
   rw[b]
   have:¬y.born=x.born:=fun e=>a.1 (by rw[<-e];exact gY c)
   simp[this]
  |succ j=>
   have h':(es.filter fun e=> !seen.contains e.born)[j]? =some e:=by simpa using h
   have c:e∈es:=(List.mem_filter.1 (fK h')).1
   have d:¬x.born=e.born:=fun g=>a.1 (by rw[g];exact gY c)
   simp only[kX,kN,d,Bool.not_eq_eq_eq_not,gD,beq_eq_false_iff_ne,ne_eq,not_false_eq_true,jJ,List.eraseIdx_cons_succ]
   congr 1
   exact f a.2 h'
theorem XZ(es:Array MapEntry)(seen:Array Nat):(leftOf es seen).toList=zY es seen:=by simp[leftOf,zY]
theorem St.setIt{r:Nat}{q:Option Nat}{ck:Nat}{seen:Array Nat}{b:World}(seen':Array Nat)(st:St m (qS r q ck seen::own) w)(a:b=w\/b=w.drew):St m (qS r q ck seen'::own) (Go.ChangeMaps.setBlock b r (.mapIter q ck seen' ck)):=by
 have c:=sT st.head.1
 refine St.set (o:= .mapIter q ck seen ck) (o':= .mapIter q ck seen' ck) st ?_ ?_ ?_
 .rcases a with rfl|rfl<;>exact⟨⟨rfl,rfl⟩,rfl,mK⟩
 .have:(w.heap.setIfInBounds r (.mapIter q ck seen' ck))[r]? =some (.mapIter q ck seen' ck):=by simp[c]
  rcases a with rfl|rfl<;>exact this
 intro k _ d
 have:(w.heap.setIfInBounds r (.mapIter q ck seen' ck))[k]? =w.heap[k]? :=by simp[Array.getElem?_setIfInBounds,Ne.symm d]
 rcases a with rfl|rfl<;>exact this
theorem XH{x:Operand}{r b ck:Nat}{es:Array MapEntry}{seen:Array Nat}{o:Option (List (κ×ν))}{rem:List (κ×ν)}(V:cL ops L i=some (some d,.next x false))(U:Nat.blt d n=true)(H:bL L x=some (.pointer (some ⟨r,0,none⟩)))
  (st:St m (qS r (some b) ck seen::dT (some b) es ck::own) w) (l:MapQ ek c agg m (some b) es ck o) (Y:ItR ek c agg m es seen rem)
  (R:rem=[]->∀w',St m (qS r (some b) ck seen::dT (some b) es ck::own) w'->N ((d,.tuple #[.bool false])::L) w')
  (S:∀(e:κ×ν) (rest:List (κ×ν)) (seen':Array Nat) (cs:List Value) (w':World),rem.Perm (e::rest)->c.rep m e.2 cs->St m (qS r (some b) ck seen'::dT (some b) es ck::own) w'->ItR ek c agg m es seen' rest->Ent es seen' (ek e.1) (pL agg cs)->
   N ((d,.tuple #[.bool true,ek e.1,pL agg cs])::L) w'):dN P n ops Q i N L w:=by
 obtain⟨_,_,_,_,_,_,A,B⟩:=l
 obtain⟨l',f,s⟩:=Y
 have D:w.heap[r]? =some (.mapIter (some b) ck seen ck):=st.head.1
 have F:w.heap[b]? =some (.map es ck):=st.tail.head.1
 refine zL (v:=undef) (w':=w) V U (fun q l=> ?_)
 rcases run_next_at (P:=P) w q.type r b ck ck seen es ck D F A (jT _) with ⟨Z,a⟩|⟨e,p,w1,G,a⟩
 .have g:zY es seen=[]:=by rw[<-XZ];exact jY (by simpa using Z)
  rw[g] at s
  have hl':l'=[]:=s
  subst hl'
  refine⟨_,w,?_,R (List.nil_perm.1 f) w st⟩
  simp[execOp,l,cB H,a]
 rw[XZ] at p
 obtain⟨j,E⟩:=List.mem_iff_getElem?.1 p
 obtain⟨k,v,cs,u,y,K,z,M⟩:=YI s E
 have a0:=(List.getElem?_eq_some_iff.1 u).1
 have g:l'.Perm ((k,v)::l'.eraseIdx j):=by
  have h:l'[j]=(k,v):=(List.getElem?_eq_some_iff.1 u).2
  have t:l'=l'.take j++(k,v)::l'.drop (j+1):=by rw[<-h,hZ,gI]
  rw[List.eraseIdx_eq_take_drop_succ]
  exact(List.Perm.of_eq t).trans fC
 have t:e∈es.toList:=(List.mem_filter.1 p).1
 have h:zY es (seen.push e.born)=(zY es seen).eraseIdx j:=qEw B E
 refine⟨_,_,?_,S (k,v) (l'.eraseIdx j) (seen.push e.born) cs _ (f.symm.trans g) K (St.setIt _ st G) ⟨_,.refl _,by rw[h];exact M⟩ ⟨seen,e,rfl,t,y,z⟩⟩
 simp[execOp,l,cB H,a,y,z]
theorem WP{x:Operand}{r b ck:Nat}{es:Array MapEntry}{seen:Array Nat}{o:Option (List (κ×ν))}{K V:Value}(v:cL ops L i=some (some d,.entry x))(t:Nat.blt d n=true)(y:bL L x=some (.pointer (some ⟨r,0,none⟩)))
  (st:St m (qS r (some b) ck seen::dT (some b) es ck::own) w) (g:MapQ ek c agg m (some b) es ck o) (u:Ent es seen K V)
  (h:N ((d,.tuple #[K,V])::L) w):dN P n ops Q i N L w:=by
 obtain⟨_,_,_,_,_,_,z,l⟩:=g
 obtain⟨a,e,rfl,f,rfl,rfl⟩:=u
 have p:w.heap[r]? =some (.mapIter (some b) ck (a.push e.born) ck):=st.head.1
 have s:w.heap[b]? =some (.map es ck):=st.tail.head.1
 have k:=run_entry_at (P:=P) w r b ck a es ck e p s f l
 refine lL v t (fun q g=> ?_) h
 simp[execOp,g,cB y,k]
end
end
end Go.Dc
section
namespace Go.Dc
def vU(s:BA)(c:Int):Int:=
 match(List.range s.size).find? fun i=>s[i]! ==c.toNat.toUInt8 with
 |some i=>(i:Int)
 |none=> -1
def AJ(s:BA)(c:Int):Int:=s.foldl (fun n x=>if x==c.toNat.toUInt8 then n+1 else n) ((0:Nat):Int)
section
variable {ρ:Option Nat} {P:Program} {n:Fr} {ops:Array Oper} {Q:Exit->Act->World->Prop} {i d:Nat} {L:bJ} {w:World} {m:Mem} {own:List Piece} {N:bJ->World->Prop}
theorem OC{f:FuncId}{fn:Func}{e:Array Value->Sem Value}{xs:Array Operand}{ts:Array TypeId}(vs:List Value)(v:Value)(s:cL ops L i=some (some d,.call {callee:= .value (.func f),args:=xs,argTypes:=ts}))(p:Nat.blt d n=true)
  (u : xs.map (lU L) = vs.toArray) (r : P.funcs[f]? = some fn) (b : (fn.name == "runtime.NumGoroutine", fn.body.isNone, (Extern.findNext fn).isNone) = (false, true, true)) (o : Extern.find fn = some e)
  (a:(e vs.toArray).run P w= .ok v w) (h:N ((d,v)::L) w):dN P n ops Q i N L w:=by
 simp only[Prod.mk.injEq] at b
 obtain⟨g,k,l⟩:=b
 have g1' : ¬ fn.name = "runtime.NumGoroutine" := by simpa using g
 have g2':fn.body=none:=by simpa using k
 have g3':Extern.findNext fn=none:=by simpa using l
 refine lL s p (fun q t=> ?_) h
 have c:lU L (.func f)= .func (.func f) #[] #[]:=rfl
 simp[execOp,t,resolve,c,u,Deferred.ofValue,invoke,callFunc,r,g1',g2',g3',o,a]
theorem qEh{f:FuncId}{fn:Func}{x y:Operand}{ts:Array TypeId}{s:BA}{c:Int}(l:cL ops L i=some (some d,.call {callee:= .value (.func f),args:= #[x,y],argTypes:=ts}))(g:Nat.blt d n=true)
  (o : bL L x = some (.string s)) (p : bL L y = some (.int .u8 c)) (k : P.funcs[f]? = some fn) (a : (fn.name == "runtime.NumGoroutine", fn.body.isNone, (Extern.findNext fn).isNone) = (false, true, true)) (b : Extern.find fn = some Extern.BytealgIndexByte.indexByte)
  (h:N ((d,.int .i64 (vU s c))::L) w):dN P n ops Q i N L w:=by
 refine OC [.string s,.int .u8 c] _ l g (by simp[cB o,cB p]) k a b ?_ h
 have e:Extern.BytealgIndexByte.indexByte #[.string s,.int .u8 c]=(match(List.range s.size).find? fun i=>s[i]! ==c.toNat.toUInt8 with
  |some i=>pure (goInt i)
  |none=>pure (goInt (-1))):=rfl
 show(Extern.BytealgIndexByte.indexByte #[.string s,.int .u8 c]).run P w=_
 rw[e]
 unfold vU
 split<;>rfl
theorem qEi{f:FuncId}{fn:Func}{x y:Operand}{ts:Array TypeId}{s:BA}{c:Int}(l:cL ops L i=some (some d,.call {callee:= .value (.func f),args:= #[x,y],argTypes:=ts}))(g:Nat.blt d n=true)
  (o : bL L x = some (.string s)) (p : bL L y = some (.int .u8 c)) (k : P.funcs[f]? = some fn) (a : (fn.name == "runtime.NumGoroutine", fn.body.isNone, (Extern.findNext fn).isNone) = (false, true, true)) (b : Extern.find fn = some Extern.BytealgCount.count)
  (h:N ((d,.int .i64 (AJ s c))::L) w):dN P n ops Q i N L w:=by
 refine OC [.string s,.int .u8 c] _ l g (by simp[cB o,cB p]) k a b ?_ h
 have e:Extern.BytealgCount.count #[.string s,.int .u8 c]=pure (goInt (s.foldl (fun n x=>if x==c.toNat.toUInt8 then n+1 else n) (0:Nat))):=rfl
 show(Extern.BytealgCount.count #[.string s,.int .u8 c]).run P w=_
 rw[e]
 unfold AJ goInt
 simp only[Sem.run_pure]
theorem CN{b:Frame}{a:Act}{k:List Item}{cs:List Frame}{c:Code}:step P (lone (b.atR a (.code (.scope c)::k)) cs w)= .next (lone (b.atR a (.code c:: .inScope c::k)) cs w):=
 step_lone_go (by simp[stepG,stepG.exec,Frame.atR])
theorem qEn{b:Frame}{a:Act}{k:List Item}{cs:List Frame}{c:Code}:step P (lone (b.atR a (.inScope c::k)) cs w)= .next (lone (b.atR a k) cs w):=
 step_lone_go (by simp[stepG,stepG.exec,Frame.atR])
def LS(Q:Exit->Act->World->Prop):Exit->Act->World->Prop
 | .goto _,_,_=>False
 | .normal,a,w=>Q .normal a w
 | .exit id,a,w=>Q (.exit id) a w
 | .ret,a,w=>Q .ret a w
 | .panic c,a,w=>Q (.panic c) a w
 | .outgrown,a,w=>Q .outgrown a w
theorem qDn{F:Fence}{m:Nat}{a:Act}{c:Code}(h:c.wpIn F m P (LS Q) a w):(Code.scope c).wpIn F m P Q a w:=by
 intro b k cs q n p
 have f:(lone (b.atR a (.code (.scope c)::k)) cs w).fenced P F:=fenced_calm n p rfl
 obtain⟨e,a₁,w₁,g,d⟩:=h b (.inScope c::k) cs q n p
 cases e with
 |normal=>exact⟨.normal,a₁,w₁,g,.head f CN (StepsIn.trans d (.one (fenced_calm n p rfl) qEn))⟩
 |exit id=>
  have r:exitTo id (.inScope c::k)=exitTo id k:=by simp[exitTo]
  exact⟨.exit id,a₁,w₁,g,fun k' o=> .head f CN (d.1 k' (by rw[r];exact o)),
   fun hr' o=>let ⟨k₁,h1,h2⟩:=d.2 hr' (by rw[r];exact o);⟨k₁,h1,.head f CN h2⟩⟩
 |goto l=>exact g.elim
 |ret=>exact⟨_,a₁,w₁,g,.of_steps (.one f CN) d⟩
 |panic ch=>exact⟨_,a₁,w₁,g,.of_steps (.one f CN) d⟩
 |outgrown=>exact⟨_,a₁,w₁,g,.of_steps (.one f CN) d⟩
theorem qLt{c:Code}(h:W ρ P n c (LS Q) L w):W ρ P n (.scope c) Q L w:=fun a b=>qDn (h a b)
theorem NU(h:X n Q .ret L w):X n (LS Q) .ret L w:=h
theorem qLv{l:Nat}(h:X n Q .normal L w):W ρ P n (.label l) Q L w:=fun a b=>wpIn_label (h a b)
end
end Go.Dc
namespace Go.Dc
def RF(P:Program)(t:TypeId):Value->Value->Option Bool
 | .int k a,.int k' b=>match P.underlying t with
  |some (.int _)=>bif decide (k=k') then some (a==b) else none
  |_=>none
 | .bool a,.bool b=>match P.underlying t with
  |some .bool=>some (a==b)
  |_=>none
 | .string a,.string b=>match P.underlying t with
  |some .string=>some (a.toList==b.toList)
  |_=>none
 |_,_=>none
def DV(P:Program)(xs ys:Array Value):List Field->Option Bool
 |[]=>some true
 |f::fs=>match xs[f.offset]?,ys[f.offset]? with
  | some a, some b => bif f.name == "_" || !P.plainKey f.type then none else (RF P f.type a b).bind fun r => (DV P xs ys fs).map fun s => r && s
  |_,_=>none
section
variable {P:Program} {n:Fr} {ops:Array Oper} {Q:Exit->Act->World->Prop} {i d:Nat} {L:bJ} {w:World} {N:bJ->World->Prop}
theorem qGo{t:TypeId}{a b:Value}{r:Bool}(dp:Nat)(h:RF P t a b=some r):(Op.equalIn (dp+1) t a b).run P w= .ok r w:=by
 unfold RF at h
 split at h
 .split at h
  .rename_i hu
   rename_i k a k' b _ q
   by_cases hk:k=k'
   .subst hk
    simp only[decide_true,cond_true,jL] at h
    subst h
    exact run_equalIn_int w dp t k _ a b hu
   simp[hk] at h
  cases h
 .split at h
  .rename_i hu;cases h;exact run_equalIn_bool w dp t _ _ hu
  cases h
 .split at h
  .rename_i hu;cases h;exact run_equalIn_string w dp t _ _ hu
  cases h
 cases h
theorem XQ{xs ys:Array Value}(dp:Nat):∀{fs:List Field} {r:Bool},DV P xs ys fs=some r->(Op.eqFields (dp+1) xs ys fs).run P w= .ok r w
 |[],r,h=>by simp[DV] at h;subst h;simp[Op.eqFields]
 |f::fs,r,h=>by
  simp only[DV] at h
  split at h
  .rename_i a b ha hb
   cases c : (f.name == "_" || !P.plainKey f.type) with
   |true=>simp[c] at h
   |false=>
    simp only[c,cond_false] at h
    simp only[kZ,Bool.not_eq_false'] at c
    obtain⟨s,d,e⟩:=jP.1 h
    obtain⟨u,g,k⟩:=kT.1 e
    have l : f.name ≠ "_" := by simpa using c.1
    have p1:=run_part_plain (P:=P) (w:=w) c.2 ha
    have p2:=run_part_plain (P:=P) (w:=w) c.2 hb
    have p3:=qGo (w:=w) dp d
    have p4:=XQ dp g
    subst k
    simp only[Op.eqFields,l,ne_eq,not_false_eq_true,jJ,Sem.run_bind,p1,p2,p3,Result.andThen_ok]
    cases s<;>simp[p4]
  cases h
theorem qEu{t:TypeId}{xs ys:Array Value}{r:Bool}(b:P.underlying t=some (.struct (P.fieldsOf t)))(a:P.stoodInHeld t=false)(h:DV P xs ys (P.fieldsOf t).toList=some r):(Op.equal t (.agg xs) (.agg ys)).run P w= .ok r w:=by
 have e:Op.equal t (.agg xs) (.agg ys)=Op.equalIn (9999+1) t (.agg xs) (.agg ys):=rfl
 rw[e,run_equalIn_struct w 9999 t xs ys b a]
 exact XQ (w:=w) 9998 h
theorem qHy{t t2:TypeId}{x y:Operand}{xs ys:Array Value}(r:Bool)(e:cL ops L i=some (some d,.binOp .eql t x y t2))(c:Nat.blt d n=true)(k:bL L x=some (.agg xs))(l:bL L y=some (.agg ys))
  (g:P.underlying t=some (.struct (P.fieldsOf t))) (a:(P.stoodInHeld t,P.eqGuardType P.depth t)=(false,false)) (b:DV P xs ys (P.fieldsOf t).toList=some r) (h:N ((d,.bool r)::L) w):dN P n ops Q i N L w:=by
 simp only[Prod.mk.injEq] at a
 refine lL e c (fun q f=> ?_) h
 simp[execOp,f,cB k,cB l,eqGuard,a.2,binOp,qEu g a.1 b]
theorem qEm{m:Mem}{own:List Piece}{t e e' sz b k n' cap cap':Nat}{x:Operand}(S:cL ops L i=some (some d,.convert t t x))(K:Nat.blt d n=true)(Y:bL L x=some (.slice (some ⟨b,0,none⟩) k cap))
  (G:LF P t=some e) (st:St m (.room (some ⟨b,0,none⟩) n' cap' e' sz::own) w) (h:∀w',St m own w'->N ((d,.slice (some ⟨b,0,none⟩) k cap)::L) w'):dN P n ops Q i N L w:=by
 obtain⟨E,F⟩:=TO G
 obtain⟨_,_,_,_,⟨cur,a,_⟩,_⟩:=st.head
 have Z:=sT a
 have z:=st.head_ne (b:=b) rfl
 have l:=st.tail
 obtain⟨w',hw'⟩:∃w',w'=w.freeze ⟨b,cur.size,none⟩ 1:=⟨_,rfl⟩
 have B:w.shape? b=some (e',cur.size):=by unfold World.shape?;rw[a]
 have H:w'.heap[b]? =some (.cells cur e' (cur.size,cur.size+1)):=by
  rw[hw'];unfold World.freeze
  simp[Array.getElem?_modify,a]
 have ho':∀j,j≠b->w'.heap[j]? =w.heap[j]? :=fun j M=>by
  rw[hw'];unfold World.freeze
  simp[Array.getElem?_modify,Ne.symm M]
 have U:Step w w':=by rw[hw'];unfold World.freeze;exact⟨⟨rfl,rfl⟩,rfl,mK⟩
 have r:(convert t t (.slice (some ⟨b,0,none⟩) k cap)).run P w= .ok (.slice (some ⟨b,0,none⟩) k cap) w':=by
  simp[convert,run_underlying E,run_underlying F,markStringish,B,hw']
 have st':St m own w':=by
  refine⟨⟨fun b' o v V=> ?_,fun b' y s=> ?_,l.1.2.2.trans U⟩,fun p A=>Piece.holds_keep (l.2.1 p A) fun k R=>ho' k (fun e=>z (CS.2 ⟨p,A,e▸R⟩)),l.2.2⟩
  .obtain⟨c,D,f,g,u⟩:=l.1.1 b' o v V
   by_cases hbb:b'=b
   .subst hbb
    rw[a] at g
    simp only[jL,Obj.cells.injEq] at g
    obtain⟨rfl,_,_⟩:=g
    exact⟨_,_,_,H,u⟩
   exact⟨c,D,f,by rw[ho' b' hbb];exact g,u⟩
  have g:=l.1.2.1 b' y s
  by_cases hbb:b'=b
  .subst hbb
   have:=st.head.2.2.2.2.2.2
   rw[this] at s;cases s
  rw[ho' b' hbb];exact g
 refine lL S K (fun q g=> ?_) (h w' st')
 simp[execOp,g,cB Y,r]
end
end Go.Dc
end
namespace Go.Dc
section
open Go.ChangeShapes Go.WideShapes Go.ChangeAt Go.RowKit
class TabW(w:World):Prop where
 ht:∀p∈RU,∃t f,w.heap[p.1]? =some (.cells p.2 t f)
def vR(w:World)[TabW w]:Mem:={cell:=fun b o=>w.cell? ⟨b,o,none⟩,obj:=fun b=>w.heap[b]?,wd:=w,ht:=TabW.ht}
theorem qLq(w:World)[TabW w]:St (vR w) [] w:=by
 refine⟨⟨fun b o v h=> ?_,fun _ _ h=>h,Step.refl w⟩,⟨fun p a=>absurd a (gK),List.nodup_nil⟩⟩
 simp only[vR,World.cell?] at h
 split at h
 .rename_i c e f hb
  exact⟨_,_,_,hb,by simpa using h⟩
 cases h
theorem qHf{w w':World}[TabW w]{m':Mem}{own:List Piece}(a:Mem.le (vR w) m')(st:St m' own w'):
  w'.os=w.os/\w'.output=w.output/\∀(b:Nat) (x:Obj),w.heap[b]? =some x->w'.heap[b]? =some x:=by
 have c:=st.1.2.2
 have e:m'.wd=w:=a.2.2.symm
 rw[e] at c
 exact⟨c.1.1,c.1.2,fun b x d=>st.1.2.1 b x (a.2.1 b x d)⟩
theorem qLa{w w':World}(a:w'.os=w.os)(c:w'.output=w.output)(d:∀(b:Nat) (x:Obj),w.heap[b]? =some x->w'.heap[b]? =some x)(may:MemPlace->Prop):w.keptBut w' may:=by
 refine⟨a,c,fun i hi=> ?_⟩
 obtain⟨x,hx⟩:∃x,w.heap[i]? =some x:=⟨w.heap[i],by simp[hi]⟩
 rw[d i x hx,hx]
 cases x<;>simp
theorem qLj{w w':World}(c:∀(b:Nat) (x:Obj),w.heap[b]? =some x->w'.heap[b]? =some x){p:MemPlace}(d:p.block<w.heap.size):w.sameAt w' p:=by
 obtain⟨x,a⟩:∃x,w.heap[p.block]? =some x:=⟨w.heap[p.block],by simp[d]⟩
 cases p with
 |cell b off=>simp only[World.sameAt,World.cell?,MemPlace.block] at a ⊢;rw[c b x a,a]
 |map b=>simp only[World.sameAt,MemPlace.block] at a ⊢;rw[c b x a,a]
section
variable {H:Type} {enc:TypeId×Value->H} {P:Program}
theorem TW{w w':World}{sp:Nat->Bool}{T:TypeId->Prop}(K:Kids P T)(l:∀{t e:TypeId},T t->P.underlying t=some (.slice e)->0<P.cellsOf e)
  (c:∀(b:Nat) (x:Obj),w.heap[b]? =some x->w'.heap[b]? =some x):∀{ts:List TypeId} {vs:List Value} {ds:List (DataW H)} {ps:List MemPlace},(∀t∈ts,T t)->
  DataW.TrodAll enc P w 0 (fun _=>true) true ts vs ds ps->(∀p∈ps,p.block<w.heap.size)->(∀p∈ps,sp p.block=true)->DataW.TrodAll enc P w' 0 sp true ts vs ds ps
 |[],[],[],_,_,h,_,_=>h
 |t::ts,v::vs,d::ds,ps,k,h,f,g=>by
  obtain⟨p,q,⟨fuel,n⟩,o,rfl⟩:=h
  exact⟨p,q,⟨fuel,DataW.trod_stays K l (fun e=>by cases e) (k t (jH ..)) n (fun x a=>qLj c (f x (kD _ a))) (fun x a=>g x (kD _ a))⟩,
   TW K l c (fun u r=>k u (jK _ r)) o (fun x a=>f x (kM _ a)) (fun x a=>g x (kM _ a)),rfl⟩
 |[],_::_,_,_,_,h,_,_=>by simp[DataW.TrodAll] at h
 |[],[],_::_,_,_,h,_,_=>by simp[DataW.TrodAll] at h
 |_::_,[],_,_,_,h,_,_=>by simp[DataW.TrodAll] at h
 |_::_,_::_,[],_,_,h,_,_=>by simp[DataW.TrodAll] at h
theorem qJx{f:Func}{s:ChangeSpec}{apart fresh a:Bool}{W W':World}{args:Array Value}{ds gs:List (DataW H)}{before:List MemPlace}{tb:TypeId}{T:TypeId->Prop}[TabW W](K:Kids P T)
  (E:∀{t e:TypeId},T t->P.underlying t=some (.slice e)->0<P.cellsOf e) (u:∀t∈f.params.toList,T t)
  (D:f.resultTypes= #[tb]) (o:P.underlying tb=some .bool) (v:s.vars=[]) (b:s.fn H (ds++gs)={results:=[.lit (.bool true)],args:=ds})
  (l:DataW.Whole enc P f.params.toList s.vars apart W args.toList ds gs before) {m':Mem} {own:List Piece} (n:Mem.le (vR W) m') (st:St m' own W'):
  s.post enc P f apart fresh a false W args (.bool true) W':=by
 obtain⟨y,z,k⟩:=qHf n st
 have hW':=l
 obtain⟨p,q,A,h,rfl,F,G⟩:=l
 have d:∀x∈p++q,x.block<W.heap.size:=fun x c=>hW'.lt x c
 rw[v] at h
 have B:q=[]:=by
  cases gs with
  |nil=>exact h
  |cons g r=>simp[DataW.TrodVars] at h
 subst B
 refine⟨ds,gs,_,[],p,[],hW',?_,?_,?_,qLa y z k _,fun e=>by cases e⟩
 .rw[b,D]
  exact⟨[],[],⟨1,by simp[DataW.trod,Value.cells,o]⟩,rfl,rfl⟩
 .rw[b]
  exact TW K E k u A (fun x c=>d x (kD _ c)) (fun x c=>by simpa using d x (kD _ c))
 rw[b,v];rfl
def LX{α:Type}(P:Program)(W:World)[TabW W](t:TypeId)(c:Codec α)(good:α->Prop):Prop:=
 P.cellsOf t=c.sz/\∀(H:Type) (enc:TypeId×Value->H) (n:Nat) (cs:List Value) (x:DataW H×List MemPlace),DataW.trod enc P W 0 (fun _=>true) true n t cs=some x->
  (x.1.weights P t).all (· <=reachBytes)=true->∃a,c.rep (vR W) a cs/\good a
variable {W:World} [TabW W]
theorem qHk{t:TypeId}{k:IntKind}(b:P.underlying t=some (.int k))(a:P.cellsOf t=1):LX P W t (aV k) (fun x=>(Lit.int k x).wf=true):=by
 refine⟨a,fun H enc n cs x h _=> ?_⟩
 obtain⟨i,rfl,_,c⟩:=DataW.trod_int b h
 exact⟨i,rfl,c⟩
theorem TA{H:Type}{e:TypeId}:∀{ds:List (DataW H)},(DataW.weightsAll P e ds).all (· <=reachBytes)=true->∀d∈ds,(d.weights P e).all (· <=reachBytes)=true
 |[],_,_,b=>by cases b
 |d::r,h,x,a=>by
  simp only[DataW.weightsAll,List.all_append,jM] at h
  rcases jR.1 a with rfl|a
  .exact h.1
  exact TA h.2 x a
theorem qLr{a:Addr}{cs:List Value}{k n:Nat}(h:W.cells? 0 (a.add k) n=some cs)(c:a.spot=none):MRow (vR W) a.block (a.off+k) cs:=by
 obtain⟨_,f,d⟩:=World.cells?_some h
 intro j v b
 have e:j<n:=by rw[<-f];exact(List.getElem?_eq_some_iff.1 b).1
 have:=d j e
 rw[b,Go.Addr.add_add,HA c] at this
 simpa[vR,gS] using this
theorem YU{α:Type}{Q:Nat->α->List Value->Prop}:∀{n:Nat},(∀i,i<n->∃y cs,Q i y cs)->∃l:List α,l.length=n/\∀i x,l[i]? =some x->∃cs,Q i x cs
 |0,_=>⟨[],rfl,fun i x h=>by simp at h⟩
 |n+1,h=>by
  obtain⟨l,b,c⟩:=YU (n:=n) (fun i hi=>h i (by omega))
  obtain⟨y,cs,d⟩:=h n (by omega)
  refine⟨l++[y],by simp[b],fun i x a=> ?_⟩
  rw[List.getElem?_append] at a
  split at a
  .exact c i x a
  rename_i hi
  have:i=n:=by
   have:=(List.getElem?_eq_some_iff.1 a).1
   simp at this;omega
  subst this
  simp[b] at a
  subst a
  exact⟨cs,d⟩
theorem qFm{α:Type}{c:Codec α}{good:α->Prop}{t e:TypeId}{by_:Nat}(D:P.underlying t=some (.slice e))(K:P.cellsOf t=1)(G:P.bytesOf e=by_)(p:LX P W e c good):
  LX P W t (EC c) (fun l=>l.length*by_<=reachBytes/\∀x∈l,good x):=by
 refine⟨K,fun H enc n cs x h E=> ?_⟩
 rcases DataW.trod_slice D h with ⟨rfl,rfl⟩|⟨a,len,cap,elems,rest,n',rfl,rfl,rfl,_,M,R,s,v,_,_⟩
 .exact⟨[],⟨none,0,rfl,RepS.nil _ _⟩,by simp,by simp⟩
 simp only[DataW.weights,D,List.all_cons,List.all_append,jM,jA] at E
 obtain⟨k,F,_⟩:=E
 have key:∀i,i<len->∃y cs',W.cells? 0 (a.add (i*P.cellsOf e)) (P.cellsOf e)=some cs'/\c.rep (vR W) y cs'/\good y:=by
  intro i hi
  have b:=v i hi
  obtain⟨el,hel'⟩:∃el,elems[i]? =some el:=⟨elems[i]'(by omega),by simp⟩
  rw[hel'] at b
  obtain⟨cs',f,r⟩:=jP.1 b
  obtain⟨y,g,d⟩:=p.2 H enc n' cs' el r (TA F el.1 (gY (fK hel')))
  exact⟨y,cs',f,g,d⟩
 obtain⟨l,z,g⟩:=YU key
 subst z
 refine⟨l,⟨some a,cap,rfl,M,R,?_,fun i x q=> ?_⟩,⟨?_,fun x q=> ?_⟩⟩
 .cases l with
  |nil=>exact .inr rfl
  |cons y l=>
   obtain⟨cs',f,_⟩:=g 0 y rfl
   obtain⟨_,A,b⟩:=World.cells?_some f
   have u:=p.1▸c.pos
   have d:=b 0 u
   have o:0<cs'.length:=by omega
   rw[List.getElem?_eq_getElem o] at d
   simp only[hO,Addr.add,jJ] at d
   exact .inl (World.cell?_spot d)
 .obtain⟨cs',f,r,_⟩:=g i x q
  have B:a.spot=none:=by
   cases l with
   |nil=>simp at q
   |cons y l=>
    obtain⟨cs',f,_⟩:=g 0 y rfl
    obtain⟨_,A,b⟩:=World.cells?_some f
    have u:=p.1▸c.pos
    have d:=b 0 u
    have o:0<cs'.length:=by omega
    rw[List.getElem?_eq_getElem o] at d
    simp only[hO,Addr.add,jJ] at d
    exact World.cell?_spot d
  exact⟨cs',r,p.1▸qLr f B⟩
 .rw[G] at k
  simp only[gJ] at k
  rw[s] at k
  exact Nat.le_trans (kY _ (Nat.le_add_right _ _)) k
 obtain⟨i,hi⟩:=List.mem_iff_getElem?.1 q
 obtain⟨cs',_,_,b⟩:=g i x hi
 exact b
variable {base:Nat} {t:TypeId} {v:Value} {d:DataW H} {ps:List MemPlace}
theorem qIh{α:Type}{c:Codec α}{good:List α->Prop}{e:TypeId}(p:P.underlying t=some (.slice e))(k:LX P W t (EC c) good)(b:Value.okWide P W .any base t v)(h:DataW.Trod enc P W 0 (fun _=>true) true t v d ps)
  (q:(d.weights P t).all (· <=reachBytes)=true):∃(l:List α) (a:Option Addr) (cap:Nat),v= .slice a l.length cap/\RepS c (vR W) a cap l/\good l:=by
 obtain⟨a,len,cap,rfl⟩:=okWide_slice p b
 obtain⟨n,h⟩:=h
 obtain⟨l,⟨a',cap',f,o⟩,g⟩:=k.2 H enc n _ _ h q
 simp only[Value.cells,kV,Value.slice.injEq,and_true] at f
 obtain⟨rfl,rfl,rfl⟩:=f
 exact⟨l,_,_,rfl,o,g⟩
end
def YZ(P:Program):Bool:=(List.range P.types.size).all fun t=>match P.underlying t with
 |some (.slice e)=>Nat.blt 0 (P.cellsOf e)
 |_=>true
theorem qIi{P:Program}(h:YZ P=true){t e:TypeId}(b:t<P.types.size)(a:P.underlying t=some (.slice e)):0<P.cellsOf e:=by
 have:=kE.1 h t (hB.2 b)
 rw[a] at this
 simp only at this
 exact gA this
end
section
theorem bX{x:Int}(a: -9223372036854775808<=x)(b:x<=9223372036854775807):IntKind.wrap .i64 x=x:=by simp[IntKind.wrap,IntKind.signed,IntKind.bits];omega
theorem IR{x:Int}(a:0<=x)(b:x<=18446744073709551615):IntKind.wrap .u64 x=x:=by simp[IntKind.wrap,IntKind.signed,IntKind.bits];omega
theorem wu8{x:Int}(a:0<=x)(b:x<=255):IntKind.wrap .u8 x=x:=by simp[IntKind.wrap,IntKind.signed,IntKind.bits];omega
theorem HC{α:Type}{l:List α}{i:Int}(a:0<=i)(h:i.toNat<l.length):idx l i=some l[i.toNat]:=by simp[idx,a,h]
theorem dM{α:Type}{l:List α}{i:Nat}(h:i<l.length):idx l (i:Int)=some l[i]:=by simp[idx,h]
theorem qIv{s:BA}{i:Nat}(h:i<s.size):eK s (i:Int)=some s[i]:=by simp[eK,h]
theorem pP{α:Type}{b:Nat}{l k:List α}(h:(l.length+k.length)*b<=140737488355328)(a:0<b):cP b l k=some (l++k):=by
 have:l.length+k.length<=maxLen:=by
  have:(l.length+k.length)*1<=(l.length+k.length)*b:=Nat.mul_le_mul_left _ a
  simp only[maxLen];omega
 simp[cP,h,this]
theorem wP{α:Type}{l:List α}{lo hi:Int}(a:0<=lo)(b:lo<=hi)(c:hi<=l.length):nH l lo hi=some ((l.take hi.toNat).drop lo.toNat):=by simp[nH,a,b,c]
theorem WM{l:BA}{lo hi:Int}(a:0<=lo)(b:lo<=hi)(c:hi<=l.size):mT l lo hi=some (l.extract lo.toNat hi.toNat):=by simp[mT,a,b,c]
theorem KU{σ β:Type}{f:σ->Option (σ⊕β)}(I:σ->Prop)(μ:σ->Nat)(R:β->Prop)
  (h:∀s,I s->(∃b,f s=some (.inr b)/\R b)\/∃s',f s=some (.inl s')/\I s'/\μ s'<μ s):∀(N:Nat) (s:σ),I s->μ s<N->∃b,aI f N s=some b/\R b
 |0,_,_,d=>absurd d (kP _)
 |N+1,s,k,d=>by
  rcases h s k with ⟨b,a,c⟩|⟨s',a,c,l⟩
  .exact⟨b,by simp[aI,a],c⟩
  obtain⟨b,e,g⟩:=KU I μ R h N s' c (by omega)
  exact⟨b,by simp[aI,a,e],g⟩
end
end Go.Dc
section
namespace Go.Dc
def ab(a:Option Addr):Nat:=match a with|some p=>p.block|none=>0
def dW(a:Option Addr)(cs:Array Value)(e:TypeId):Piece:=match a with
 |none=> .room none 0 0 0 0
 |some p=> .blk p.block (.cells cs e (0,0))
def bS{α:Type}(f:α->List Value)(l:List α)(T:List Value):Array Value:=(l.flatMap f++T).toArray
def OAS(a:Option Addr)(n cap k:Nat)(T:List Value):Prop:=
 n<=cap/\cap<=maxLen/\match a with
  |none=>cap=0
  |some p=>p=⟨p.block,0,none⟩/\n*k+T.length=cap*k
theorem OAS.cast{α:Type}{a:Option Addr}{nn cap k:Nat}{T:List Value}{l:List α}(h:OAS a nn cap k T)(b:List.length l=nn):OAS a (List.length l) cap k T:=by rw[b];exact h
theorem OAS.nil(k:Nat):OAS none 0 0 k []:=⟨jT _,gC _,rfl⟩
theorem iP{α:Type}{f:α->List Value}{k:Nat}(a:∀x,(f x).length=k):∀l:List α,(l.flatMap f).length=l.length*k
 |[]=>by simp
 |x::l=>by simp[kF,a,iP a l,kS,fS]
theorem CX{α:Type}{f:α->List Value}{k:Nat}(a:∀x,(f x).length=k):∀(l:List α) (i:Nat) (z:α) (j:Nat),l[i]? =some z->j<k->(l.flatMap f)[i*k+j]? =(f z)[j]?
 |[],i,z,j,h,_=>by simp at h
 |x::l,0,z,j,h,b=>by
  simp at h;subst h
  simp[kF,List.getElem?_append,a,b]
 |x::l,i+1,z,j,h,b=>by
  have:=CX a l i z j (by simpa using h) b
  rw[kF,List.getElem?_append_right (by rw[a,kS];omega),a]
  have e:(i+1)*k+j-k=i*k+j:=by rw[kS];omega
  rw[e];exact this
theorem XN{α:Type}{f:α->List Value}{k:Nat}(a:∀x,(f x).length=k):∀(l:List α) (i:Nat) (z u:α),l[i]? =some z->
  (l.set i u).flatMap f=(l.flatMap f).take (i*k)++f u++(l.flatMap f).drop (i*k+k)
 |[],i,z,u,h=>by simp at h
 |x::l,0,z,u,h=>by
  rw[List.set_cons_zero,kF,kF,hO,kO,List.take_zero,jQ]
  rw[hF,jW (by rw[a];exact jT _),a]
  simp
 |x::l,i+1,z,u,h=>by
  have:=XN a l i z u (by simpa using h)
  simp only[List.set_cons_succ,kF,this]
  have b:(i+1)*k=(f x).length+i*k:=by rw[kS,a];omega
  have c:(i+1)*k+k=(f x).length+(i*k+k):=by omega
  rw[c,b,List.take_length_add_append,List.drop_length_add_append]
  simp[jE]
section
variable {P:Program} {n:Fr} {ops:Array Oper} {Q:Exit->Act->World->Prop} {i d:Nat} {L:bJ} {w:World} {m:Mem} {own:List Piece} {N:bJ->World->Prop}
variable {α:Type} {f:α->List Value}
theorem OAS.some{a:Option Addr}{nn cap k:Nat}{T:List Value}(h:OAS a nn cap k T){l:List α}(f:List.length l=nn){j:Nat}(e:j<l.length):a=Option.some ⟨ab a,0,none⟩:=by
 obtain⟨c,d,b⟩:=h
 cases a with
 |none=>simp only at b;omega
 |some p=>simp only at b;exact congrArg Option.some b.1
theorem PK{a:Option Addr}{b:Nat}{cs:Array Value}{e:TypeId}(h:a=some ⟨b,0,none⟩):dW a cs e= .blk b (.cells cs e (0,0)):=by subst h;rfl
theorem zU{l:List α}{ix:Int}{z:α}(h:idx l ix=some z):0<=ix/\l[ix.toNat]? =some z/\ix.toNat<l.length:=by
 unfold idx at h
 split at h
 .rename_i h0;exact⟨h0,h,(List.getElem?_eq_some_iff.1 h).1⟩
 cases h
theorem yO{t e:TypeId}{x y:Operand}{a:Option Addr}{nn cc k:Nat}{l:List α}{T:List Value}{ix:Int}{z u:α}{o:Nat}{v:Value}(g:∀x,(f x).length=k)(po:Nat)(D:po=ix.toNat*k+o)(S:cL ops L i=some (none,.store t x y))
  (Y:bL L x=some (.pointer (some ⟨ab a,po,none⟩))) (Z:bL L y=some v) (st:St m (dW a (bS f l T) e::own) w) (U:OAS a nn cc k T) (R:List.length l=nn) (hz:idx l ix=some z) (d:wT P t v o k=true)
  (V:f u=(f z).take o++v.cells.toList++(f z).drop (o+v.cells.toList.length))
  (h:∀w',St m (dW a (bS f (l.set ix.toNat u) T) e::own) w'->N L w'):dN P n ops Q i N L w:=by
 obtain⟨h0,hz',s⟩:=zU hz
 have B:=U.some R s
 subst D
 rw[PK B] at st
 have c:=iP g l
 unfold wT at d
 cases hi:P.info? t with
 |none=>simp[hi] at d
 |some inf=>
  simp only[hi,jM] at d
  obtain⟨⟨G,H⟩,K⟩:=d
  have h1':=fH G
  have h2':=gA H
  have a0:ix.toNat*k+k<=l.length*k:=by
   have:=kY k (show ix.toNat+1<=l.length from s)
   rw[kS,hH] at this;exact this
  have a1:v.cells.toList.length=v.cells.size:=by simp
  have E:ix.toNat*k+o+v.cells.toList.length<=(bS f l T).size:=by
   simp only[bS,dB,jC,c];omega
  have b:=run_storeCells_at P (ab a) (ix.toNat*k+o) e v.cells.toList 0 (bS f l T) w st.head.1 (by simpa using E) (UT K)
  simp only[fA] at b
  have A:((bS f l T).toList.take (ix.toNat*k+o)++v.cells.toList++(bS f l T).toList.drop (ix.toNat*k+o+v.cells.toList.length)).toArray=bS f (l.set ix.toNat u) T:=by
   apply congrArg List.toArray
   simp only[bS,hJ]
   rw[XN g l ix.toNat z u hz',V]
   have M:(l.flatMap f).take (ix.toNat*k+o)=(l.flatMap f).take (ix.toNat*k)++(f z).take o:=by
    apply fO
    intro j
    rw[List.getElem?_take,List.getElem?_append]
    simp only[kL,c]
    split
    .rename_i p
     split
     .rename_i hj2;rw[List.getElem?_take,if_pos (by omega)]
     rename_i hj2
     rw[List.getElem?_take,if_pos (by omega)]
     have r:=CX g l ix.toNat z (j-ix.toNat*k) hz' (by omega)
     have F:ix.toNat*k+(j-ix.toNat*k)=j:=by omega
     rw[F] at r
     rw[r];congr 1;omega
    rename_i p
    rw[if_neg (by omega),List.getElem?_take,if_neg (by omega)]
   have F:(l.flatMap f).drop (ix.toNat*k+o+v.cells.toList.length)=(f z).drop (o+v.cells.toList.length)++(l.flatMap f).drop (ix.toNat*k+k):=by
    apply fO
    intro j
    rw[List.getElem?_drop,List.getElem?_append]
    simp only[kW,g]
    split
    .rename_i p
     rw[List.getElem?_drop]
     have r:=CX g l ix.toNat z (o+v.cells.toList.length+j) hz' (by omega)
     rw[<-r];congr 1;omega
    rename_i p
    rw[List.getElem?_drop];congr 1;omega
   rw[kU (by rw[c];omega),gG (by rw[c];omega),M,F]
   simp only[jE]
  rw[A] at b
  have st':=st.set (w':=w.setRow (ab a) (bS f (l.set ix.toNat u) T)) (o':= .cells (bS f (l.set ix.toNat u) T) e (0,0)) ⟨⟨rfl,rfl⟩,rfl,mK⟩ (setRow_heap w (ab a) (bS f l T) _ e _ st.head.1) (fun j _ p=>setRow_other w (ab a) j _ p)
  rw[<-PK (cs:=bS f (l.set ix.toNat u) T) (e:=e) B] at st'
  refine zM S (fun q r=> ?_) (h (w.setRow (ab a) (bS f (l.set ix.toNat u) T)) st')
  simp[execOp,r,Instr.storeAt,cB Y,cB Z,Instr.sureAddr,storeVar,sizeOf,typeInfo,hi,h1',b]
theorem St.freezeM{c:Codec α}{a:Option Addr}{e nn cc:Nat}{l:List α}{T:List Value}(st:St m (dW a (bS f l T) e::own) w)(G:OAS a nn cc c.sz T)(E:List.length l=nn)(r:∀x,(f x).length=c.sz)(D:∀m x,c.rep m x (f x)):
  ∃m',m.le m'/\St m' (.room a (List.length l) cc e c.sz::own) w/\RepS c m' a cc l:=by
 obtain⟨U,t,g⟩:=G
 cases a with
 |none=>
  simp only at g
  have d:l=[]:=jY (by omega)
  subst d;subst g
  exact⟨m,m.le_refl,st.tail.nilroom e c.sz,RepS.nil c m⟩
 |some p=>
  simp only at g
  obtain⟨y,B⟩:=g
  obtain⟨b,o,s⟩:=p
  simp only[Addr.mk.injEq,true_and] at y
  obtain⟨rfl,rfl⟩:=y
  have n:=iP r l
  have z:(bS f l T).toList.take (l.flatMap f).length=l.flatMap f:=by simp[bS]
  have d:St m (.blk b (.cells (bS f l T) e (0,0))::own) w:=st
  obtain⟨m',K,M,k3,R,S,V⟩:=St.know (b:=b) (cs:=l.flatMap f) d.tail (d.head_ne rfl) d.head.1 z (fun o v A=>by rw[d.head.2.1 o] at A;cases A)
  have h:(bS f l T).size=cc*c.sz:=by simp[bS,n,E,B]
  refine⟨m',K,M.cons ⟨rfl,rfl,by omega,t,⟨_,d.head.1,h⟩,fun o F=>R o (by rw[n];exact F),by rw[S];exact d.head.2.2⟩ ?_,?_⟩
  .intro k u;simp[Piece.block] at u;subst u;exact d.head_ne rfl
  exact RepS.of_cells (cs:=l.flatMap f) (by omega) t (fun j x H=>by
   have u:((l.flatMap f).drop (j*c.sz)).take c.sz=f x:=by
    apply fO
    intro q
    rw[List.getElem?_take]
    split
    .rename_i hq
     rw[List.getElem?_drop,CX r l j x q H hq]
    rename_i hq;rw[List.getElem?_eq_none (by rw[r];omega)]
   rw[u];exact D m' x) k3
end
end Go.Dc
namespace Go.Dc
section
variable {P:Program} {n:Fr} {ops:Array Oper} {Q:Exit->Act->World->Prop} {L:bJ} {w:World} {m:Mem} {own:List Piece}
variable {ks:List (Nat×(World->Prop))} {k fuel:Nat} {S:World->Prop} {done:List Nat}
theorem qNj{t t2:TypeId}{x y:Operand}{a b r:BA}(i d:Nat)(o:cL ops L i=some (some d,.binOp .add t x y t2))(l:Nat.blt d n=true)
  (p:pF ops ks k i done=true) (f:(k,S)∈ks) (g:QP Q) (s:bL L x=some (.string a)) (u:bL L y=some (.string b)) (c:cC a b=some r)
  (h:WA P n ops Q ks fuel (done++[i]) ((d,.string r)::L) w):WA P n ops Q ks (fuel+1) done L w:=by
 unfold cC at c
 split at c
 .rename_i hb
  simp only[jL] at c;subst c
  refine zQ i d _ _ o l p f g (fun q g w' _=> ?_) h
  have e:IntKind.i64.max=9223372036854775807:=by decide
  have hb':¬(9223372036854775807<(a.size:Int)+(b.size:Int)):=by simp only[maxLen] at hb;omega
  simp[execOp,g,cB s,cB u,eqGuard,binOp,Op.stringOp,e,hb']
 cases c
end
end Go.Dc
namespace Go.Dc
section
variable {P:Program} {n:Fr} {ops:Array Oper} {Q:Exit->Act->World->Prop} {L:bJ} {w:World} {m:Mem} {own:List Piece}
variable {ks:List (Nat×(World->Prop))} {fuel:Nat} {done:List Nat} {α:Type} {f:α->List Value}
theorem DB(is:List Nat)(f:Region.ready .any ops (marks done ops.size)=is)(e:is≠[])
  (h:∀i∈is,dN P n ops Q i (fun L' w'=>TS ks (marks (done++[i]) ops.size) w'/\WA P n ops Q ks fuel (done++[i]) L' w') L w):WA P n ops Q ks (fuel+1) done L w:=by
 intro _ a l
 refine⟨fun c=>(by rw[f] at c;exact absurd c e),fun j d=> ?_⟩
 rw[f] at d
 refine KO (fun a' w' h'=> ?_) (h j d a l)
 obtain⟨L',g,b,k⟩:=h'
 have:=k b a' g
 rw[CQ] at b
 rw[CQ] at this
 exact⟨b,this⟩
theorem DH{p:Nat->Prop}{a b:Nat}(c:p a)(d:p b):∀i∈[a,b],p i:=by
 intro i hi;simp only[jR,gK,dG] at hi
 rcases hi with rfl|rfl<;>assumption
theorem GN{q:Nat}{S:World->Prop}{t e:TypeId}{x y:Operand}{a:Option Addr}{nn cc k:Nat}{T:List Value}{l:List α}{kd:IntKind}{ix:Int}{z:α}(i d:Nat)(D:cL ops L i=some (some d,.indexAddr t x y))(A:Nat.blt d n=true)
  (g:pF ops ks q i done=true) (b:(q,S)∈ks) (c:QP Q)
  (o:bL L x=some (.slice a nn cc)) (F:bL L y=some (.int kd ix)) (hi:qR P t=some (e,k)) (E:OAS a nn cc k T) (B:List.length l=nn) (G:idx l ix=some z)
  (h:WA P n ops Q ks fuel (done++[i]) ((d,.pointer (some ⟨ab a,ix.toNat*k,none⟩))::L) w):WA P n ops Q ks (fuel+1) done L w:=by
 obtain⟨r,inf,s,u⟩:=CF hi
 obtain⟨p,_,f⟩:=zU G
 have v:=E.some B f
 refine zQ i d _ _ D A g b c (fun q c w' _=> ?_) h
 have hlt':ix<(nn:Int):=by omega
 rw[v] at o
 simp[execOp,c,Instr.indexAt,cB o,cB F,asIntOf,run_underlying r,p,hlt',sizeOf,typeInfo,s,u,wQ]
theorem CO{q:Nat}{S:World->Prop}{t e:TypeId}{x:Operand}{a:Option Addr}{nn cc k:Nat}{l:List α}{T:List Value}{ix:Int}{z:α}{o:Nat}{v:Value}(i d:Nat)(y:∀x,(f x).length=k)(po:Nat)(E:po=ix.toNat*k+o)(V:cL ops L i=some (some d,.load t x))(M:Nat.blt d n=true)
  (F:pF ops ks q i done=true) (p:(q,S)∈ks) (r:QP Q) (G:∀w,S w->Piece.holds m w (dW a (bS f l T) e))
  (hx:bL L x=some (.pointer (some ⟨ab a,po,none⟩))) (Y:OAS a nn cc k T) (U:List.length l=nn) (hz:idx l ix=some z) (Z:oH P t ((f z).drop o)=some v)
  (h:WA P n ops Q ks fuel (done++[i]) ((d,v)::L) w):WA P n ops Q ks (fuel+1) done L w:=by
 obtain⟨h0,hz',B⟩:=zU hz
 have H:=Y.some U B
 subst E
 refine zQ i d _ _ V M F p r (fun q r w' hw'=> ?_) h
 have D:=G w' hw'
 rw[PK H] at D
 have K:=D.1
 have R:=zD (P:=P) (w:=w') (t:=t) (b:=ab a) (o:=ix.toNat*k+o) (cs:=(f z).drop o) (v:=v) (fun j u s=>by
  rw[List.getElem?_drop] at s
  have A:o+j<k:=by rw[<-y z];exact(List.getElem?_eq_some_iff.1 s).1
  have c:=CX y l ix.toNat z (o+j) hz' A
  rw[s] at c
  have g:=(List.getElem?_eq_some_iff.1 c).1
  simp only[World.cell?,K,bS,List.getElem?_toArray]
  have e:ix.toNat*k+o+j=ix.toNat*k+(o+j):=by omega
  rw[e,List.getElem?_append_left g]
  simpa using c) Z
 simp[execOp,r,Instr.loadAt,cB hx,Instr.sureAddr,R]
end
end Go.Dc
namespace Go.Dc
section
variable {P:Program} {n:Fr} {ops:Array Oper} {Q:Exit->Act->World->Prop} {i d:Nat} {L:bJ} {w:World} {m:Mem} {own:List Piece} {N:bJ->World->Prop}
variable {α:Type} {f:α->List Value}
def appM(by_:Nat)(k:List α):Option (List α):=if k.length*by_<=140737488355328/\k.length<=maxLen then some k else none
theorem qFz{c:Codec α}(g:∀m x cs,c.rep m x cs->cs=f x){k:List α}{cs:List Value}(b:cs.length=k.length*c.sz)(a:∀i y,k[i]? =some y->c.rep m y ((cs.drop (i*c.sz)).take c.sz)):cs=k.flatMap f:=by
 induction k generalizing cs with
 |nil=>simp at b;subst b;rfl
 |cons x k n=>
  have d:=g _ _ _ (a 0 x rfl)
  simp only[hO,jZ] at d
  have h:=n (cs:=cs.drop c.sz) (by simp only[kW,b,jD,kS];omega) (fun i y l=>by
   have:=a (i+1) y (by simpa using l)
   rw[List.drop_drop]
   have e:c.sz+i*c.sz=(i+1)*c.sz:=by rw[kS];omega
   rw[e];exact this)
  rw[kF,<-d,<-h,gI]
theorem PH{a:Option Addr}{e sz:Nat}(st:St m (.room a 0 0 e sz::own) w):St m (dW a (bS f [] []) e::own) w:=by
 cases a with
 |none=>exact st.tail.nilroom 0 0
 |some p=>
  obtain⟨l,n,q,r,⟨cur,d,s⟩,g,h⟩:=st.head
  have b:cur=bS f [] []:=by
   have:cur.size=0:=by omega
   rw[Array.size_eq_zero_iff.1 this];rfl
  refine st.tail.cons ⟨by rw[d,b],⟨fun o=>g o (by omega),h⟩⟩ ?_
  intro k c
  have hk':some p.block=some k:=c
  simp only[jL] at hk';subst hk'
  exact st.head_ne rfl
end
end Go.Dc
namespace Go.Dc
theorem pD{m m':Mem}{w:World}{a:Option Addr}{cs:Array Value}{e:TypeId}(h:Piece.holds m' w (dW a cs e))(b:m.le m'):Piece.holds m w (dW a cs e):=by
 cases a with
 |none=>exact h
 |some p=>exact Piece.holds_anti (o:= .cells cs e (0,0)) h b
end Go.Dc
namespace Go.Dc
section
variable {P:Program} {n:Fr} {ops:Array Oper} {Q:Exit->Act->World->Prop} {L:bJ} {w:World}
theorem aC{id:Nat}{y:Code}(h:WO P n ops (Exit.then (fun a w=>y.wpIn (mW none) 0 P Q a w) Q) 0 L w):W none P n (.seq (.region id ops false) y) Q L w:=aE (aX h)
theorem IC{i:Nat}{ρ:Option Nat}{y:Code}(hi:ops.size=i)(h:W ρ P n y Q L w):WO P n ops (Exit.then (fun a w=>y.wpIn (mW ρ) 0 P Q a w) Q) i L w:=aS hi (aD h)
end
end Go.Dc
end
section
namespace Go.Dc
section
variable {P:Program} {n:Fr} {ops:Array Oper} {Q:Exit->Act->World->Prop} {i d:Nat} {L:bJ} {w:World} {m:Mem} {own:List Piece} {N:bJ->World->Prop}
def qH(a:Option Addr)(cap l k:Nat):Option Addr:=if cap=l then a else a.map fun p=>p.add (l*k)
theorem qIx{b o cap l k:Nat}(h:l<cap):qH (some ⟨b,o,none⟩) cap l k=some ⟨b,o+l*k,none⟩:=by
 unfold qH;rw[if_neg (by omega)];simp[wQ]
theorem qGr{t e k:Nat}{x:Operand}{lo hi:Option Operand}{a:Option Addr}{nn cap:Nat}{li hix:Int}(g:bL L x=some (.slice a nn cap))(v:qR P t=some (e,k))
  (p:(lo=none/\li=0)\/∃y kd,lo=some y/\bL L y=some (.int kd li)) (n:(hi=none/\hix=nn)\/∃y kd,hi=some y/\bL L y=some (.int kd hix)) (h:0<=li) (u:li<=hix) (l:hix<=cap) (q:Oper) (f:q.op= .slice t x lo hi none) (w:World):
  (execOp (lU L) q).run P w= .ok (.value (.slice (qH a cap li.toNat k) (hix.toNat-li.toNat) (cap-li.toNat))) w:=by
 obtain⟨b,inf,c,d⟩:=CF v
 have r:0<=hix:=by omega
 have o:li<=max hix 0:=by omega
 rcases p with ⟨rfl,rfl⟩|⟨y,kd,rfl,s⟩<;>rcases n with ⟨rfl,rfl⟩|⟨y',kd',rfl,hy'⟩
 .simp[execOp,f,Instr.sliceAt,Instr.slice,Instr.sliceBounds,run_underlying b,cB g,sizeOf,typeInfo,c,d,qH]
 .simp[execOp,f,Instr.sliceAt,Instr.slice,Instr.sliceBounds,Instr.sliceBound,asIntOf,run_underlying b,cB g,cB hy',r,l,sizeOf,typeInfo,c,d,qH]
 .have:li<=(nn:Int):=u
  simp[execOp,f,Instr.sliceAt,Instr.slice,Instr.sliceBounds,Instr.sliceBound,asIntOf,run_underlying b,cB g,cB s,h,this,sizeOf,typeInfo,c,d,qH]
 simp[execOp,f,Instr.sliceAt,Instr.slice,Instr.sliceBounds,Instr.sliceBound,asIntOf,run_underlying b,cB g,cB s,cB hy',r,l,h,o,sizeOf,typeInfo,c,d,qH]
theorem UO{t e k:Nat}{x:Operand}{lo hi:Option Operand}{a:Option Addr}{nn cap:Nat}{li hix:Int}(v:Value)(r:cL ops L i=some (some d,.slice t x lo hi none))(p:Nat.blt d n=true)(z:bL L x=some (.slice a nn cap))(o:qR P t=some (e,k))
  (c:(lo=none/\li=0)\/∃y kd,lo=some y/\bL L y=some (.int kd li)) (b:(hi=none/\hix=nn)\/∃y kd,hi=some y/\bL L y=some (.int kd hix)) (f:0<=li) (g:li<=hix) (l:hix<=cap) (u: .slice (qH a cap li.toNat k) (hix.toNat-li.toNat) (cap-li.toNat)=v)
  (h:N ((d,v)::L) w):dN P n ops Q i N L w:=by
 subst u
 exact lL r p (fun q s=>qGr z o c b f g l q s w) h
theorem OF{b o k nn cap sl:Nat}{C:Array Value}{e:TypeId}{S:List Value}(d:w.heap[b]? =some (.cells C e (0,0)))(c:(C.toList.drop o).take (nn*k)=S)(f:S.length=nn*k):
  (Builtin.firstCells k nn (.slice (some ⟨b,o,none⟩) sl cap)).run P w= .ok S.toArray w:=by
 refine run_firstCells_some w k nn ⟨b,o,none⟩ sl cap S f fun j v a=> ?_
 rw[<-c,List.getElem?_take] at a
 split at a
 .rw[List.getElem?_drop] at a
  rw[wQ]
  simp only[World.cell?,d]
  simpa using a
 cases a
end
end Go.Dc
namespace Go.Dc
end Go.Dc
end
namespace Go.Dc
section
variable {P:Program} {n:Fr} {ops:Array Oper} {Q:Exit->Act->World->Prop} {i d:Nat} {L:bJ} {w:World} {m:Mem} {own:List Piece} {N:bJ->World->Prop}
variable {ks:List (Nat×(World->Prop))} {fuel:Nat} {done:List Nat}
end
section
variable {P:Program} {n:Fr} {ops:Array Oper} {Q:Exit->Act->World->Prop} {i d:Nat} {L:bJ} {w:World} {m:Mem} {own:List Piece} {N:bJ->World->Prop} {α:Type} {f:α->List Value}
def AK(l:List α)(lo hi:Int):Option Unit:=if 0<=lo/\lo<=hi/\hi<=l.length then some () else none
theorem WD{l:List α}{lo hi:Int}{u:Unit}(h:AK l lo hi=some u):0<=lo/\lo<=hi/\hi<=l.length:=by
 unfold AK at h
 split at h
 .assumption
 cases h
theorem qHg{t e k:Nat}{x:Operand}{lo hi:Option Operand}{a:Option Addr}{nn cc:Nat}{T:List Value}{l:List α}{li hix:Int}{u:Unit}(q:cL ops L i=some (some d,.slice t x lo hi none))(p:Nat.blt d n=true)(s:bL L x=some (.slice a nn cc))(o:qR P t=some (e,k))
  (c:(lo=none/\li=0)\/∃y kd,lo=some y/\bL L y=some (.int kd li)) (b:(hi=none/\hix=nn)\/∃y kd,hi=some y/\bL L y=some (.int kd hix)) (r:OAS a nn cc k T) (A:List.length l=nn) (v:AK l li hix=some u)
  (h:N ((d,.slice (qH a cc li.toNat k) (hix.toNat-li.toNat) (cc-li.toNat))::L) w):dN P n ops Q i N L w:=by
 obtain⟨f,g,z⟩:=WD v
 have:=r.1
 exact UO _ q p s o c b f g (by omega) rfl h
theorem qGd{t e:TypeId}{len k:Nat}{parts:Array (Nat×Operand)}{xs:List α}{cs:List Value}(u:∀x,(f x).length=k)(r:cL ops L i=some (some d,.buildSlice t len parts))(o:Nat.blt d n=true)
  (c:∀w:World,(Instr.buildSlice t len (parts.map fun p=>(p.1,lU L p.2))).run P w= .ok (.slice (some ⟨w.heap.size,0,none⟩) len len) (w.alloc (.cells cs.toArray e)))
  (l:cs=xs.flatMap f) (a:len=xs.length) (b:Nat.ble len maxLen=true) (st:St m own w)
  (h:∀a' cap T w',OAS a' (List.length xs) cap k T->St m (dW a' (bS f xs T) e::own) w'->N ((d,.slice a' (List.length xs) cap)::L) w'):dN P n ops Q i N L w:=by
 subst a;subst l
 have g:=st.alloc (w':=w.alloc (.cells (xs.flatMap f).toArray e)) ⟨⟨rfl,rfl⟩,rfl,mK⟩ rfl
 refine lL (w':=w.alloc (.cells (xs.flatMap f).toArray e)) r o (fun q s=> ?_) (h (some ⟨w.heap.size,0,none⟩) xs.length [] _ ⟨jT _,gA b,rfl,rfl⟩ ?_)
 .simp[execOp,s,c w]
 unfold bS
 rw[jV]
 exact g
theorem KX{t e k:Nat}{x y:Operand}{kd:IntKind}{a:Option Addr}{nn cc:Nat}{T:List Value}{l r:List α}{hix:Int}{q:TypeId}(A:∀x,(f x).length=k)(E:cL ops L i=some (some d,.slice t x none (some y) none))(z:Nat.blt d n=true)(H:bL L x=some (.slice a nn cc))(K:bL L y=some (.int kd hix))(u:qR P t=some (e,k))
  (st:St m (dW a (bS f l T) q::own) w) (F:OAS a nn cc k T) (D:List.length l=nn) (g:nH l 0 hix=some r)
  (h:∀T',OAS a (List.length r) cc k T'->St m (dW a (bS f r T') q::own) w->N ((d,.slice a (List.length r) cc)::L) w):dN P n ops Q i N L w:=by
 unfold nH at g
 split at g
 .rename_i hh
  obtain⟨R,S,U⟩:=hh
  simp only[jL,gZ,jZ] at g
  subst g
  obtain⟨j,rfl⟩:∃j:Nat,hix=(j:Int):=⟨hix.toNat,by omega⟩
  have B:j<=l.length:=by omega
  obtain⟨V,M,o⟩:=F
  have c:(l.take j).length=j:=by rw[kL];omega
  have b:bS f (l.take j) ((l.drop j).flatMap f++T)=bS f l T:=by
   unfold bS
   rw[<-jE,<-List.flatMap_append,gI]
  have s:=iP A (l.drop j)
  have hs':OAS a (List.length (l.take j)) cc k ((l.drop j).flatMap f++T):=by
   rw[c]
   refine⟨by omega,M,?_⟩
   cases a with
   |none=>exact o
   |some p=>
    refine⟨o.1,?_⟩
    have:=o.2
    rw[jC,s,kW,<-this,<-D,Nat.sub_mul]
    have:=kY k B
    omega
  have G:(Value.slice (qH a cc (0:Int).toNat k) ((j:Int).toNat-(0:Int).toNat) (cc-(0:Int).toNat))= .slice a (List.length (l.take j)) cc:=by
   rw[c]
   simp only[gZ,jS,Nat.sub_zero]
   congr 1
   unfold qH
   split
   .rfl
   cases a with
   |none=>rfl
   |some p=>
    have:=o.1
    rw[hO]
    show some (p.add 0)=some p
    rw[this]
    rfl
  refine UO (li:=0) (hix:=(j:Int)) _ E z H u (.inl ⟨rfl,rfl⟩) (.inr ⟨y,kd,rfl,K⟩) (by omega) (by omega) (by omega) G (h _ hs' (by
   have v:bS f (List.take (j:Int).toNat l) ((l.drop j).flatMap f++T)=bS f l T:=b
   rw[v];exact st))
 cases g
theorem OV{k:Nat}(a:∀x,(f x).length=k):∀(l:List α) (j:Nat),(l.flatMap f).take (j*k)=(l.take j).flatMap f
 |[],j=>by simp
 |x::l,0=>by simp
 |x::l,j+1=>by
  rw[kF,List.take_succ_cons,kF,List.take_append,a,show(j+1)*k-k=j*k by rw[kS,hH,hU],OV a l j,gW (by rw[a,kS];omega)]
theorem WI{k:Nat}(a:∀x,(f x).length=k):∀(l:List α) (j:Nat),(l.flatMap f).drop (j*k)=(l.drop j).flatMap f
 |[],j=>by simp
 |x::l,0=>by simp
 |x::l,j+1=>by
  rw[kF,List.drop_succ_cons,hF,a,show(j+1)*k-k=j*k by rw[kS,hH,hU],WI a l j,jW (by rw[a,kS];omega),jQ]
theorem NN{k:Nat}(a:∀x,(f x).length=k){l:List α}{T:List Value}{j:Nat}(c:j<=l.length):(bS f l T).toList.take (j*k)=(l.take j).flatMap f:=by
 have b:=iP a l
 simp only[bS]
 rw[kU (by rw[b];exact kY _ c),OV a]
theorem TU{k:Nat}(a:∀x,(f x).length=k){l:List α}{T:List Value}{j:Nat}(c:j<=l.length):(bS f l T).toList.drop (j*k)=(l.drop j).flatMap f++T:=by
 have b:=iP a l
 simp only[bS]
 rw[gG (by rw[b];exact kY _ c),WI a]
theorem JZ{t u e by_ kk:Nat}{x y:Operand}{f:α->List Value}{v:Value}{a:Option Addr}{nn cc:Nat}{T:List Value}{l k r:List α}(H:∀x,(f x).length=kk)
  (ho:cL ops L i=some (some d,.call {callee:= .builtin .append,args:= #[x,y],argTypes:= #[t,u]})) (Z:Nat.blt d n=true)
  (U:bL L x=some (.slice a nn cc)) (hy:bL L y=some v) (st:St m (dW a (bS f l T) e::own) w) (hs:OAS a nn cc kk T) (hn:List.length l=nn) (hi:sD P t=some (e,kk,by_,kk)) (hu:sJ P u e)
  (R:∀w':World,Step w w'->w'.heap=w.heap->xH P w' kk v k.length (k.flatMap f)) (S:cP by_ l k=some r)
  (h:∀a' cap T' w',OAS a' (List.length r) cap kk T'->St m (dW a' (bS f r T') e::own) w'->N ((d,.slice a' (List.length r) cap)::L) w'):dN P n ops Q i N L w:=by
 obtain⟨ht,inf,z,E,hz',g,a1,a3⟩:=NI hi
 unfold cP at S
 split at S
 .rename_i hk
  obtain⟨k1,k2⟩:=hk
  simp only[jL] at S;subst S
  subst hn
  have B:=R w (Step.refl w) rfl
  have Y:=iP H l
  have V:=iP H k
  obtain⟨q1,q2,F⟩:=hs
  by_cases hroom:l.length+k.length<=cc
  .cases a with
   |none=>
    simp only at F
    have K:l=[]:=jY (by omega)
    have A:k=[]:=jY (by omega)
    subst K;subst A;subst F
    refine zL (v:=undef) (w':=w) ho Z (fun o G=> ?_)
    have c:=TB w t u o.type e inf ht hu E (x:=v) (news:=[]) (by rw[g];exact B)
    refine⟨_,_,?_,h none 0 [] w ⟨jT _,gC _,rfl⟩ st⟩
    simp only[execOp,G,resolve,Sem.run_bind,Sem.run_pure,Result.andThen_ok,invoke,builtin]
    simp only[jF] at U
    simp[cB U,cB hy,c]
   |some p=>
    simp only at F
    obtain⟨M,hT⟩:=F
    obtain⟨b,o,s⟩:=p
    simp only[Addr.mk.injEq,true_and] at M
    obtain⟨rfl,rfl⟩:=M
    have D:St m (.blk b (.cells (bS f l T) e (0,0))::own) w:=st
    have a2:(bS f l T).size=cc*kk:=by
     simp only[bS,dB,jC,Y];omega
    have a0:l.length*kk+k.length*kk<=cc*kk:=by rw[<-kS];exact kY _ hroom
    have hC:(bS f l T).toList.take (l.length*inf.size)++k.flatMap f++(bS f l T).toList.drop (l.length*inf.size+(k.flatMap f).length)=(bS f (l++k) (T.drop (k.length*kk))).toList:=by
     rw[g,V]
     have A:(bS f l T).toList.take (l.length*kk)=l.flatMap f:=by
      have:=NN (T:=T) H (jT l.length)
      rwa[gT] at this
     have e2:(bS f l T).toList.drop (l.length*kk+k.length*kk)=T.drop (k.length*kk):=by
      have:=TU (T:=T) H (jT l.length)
      rw[hD,List.flatMap_nil,jQ] at this
      rw[<-List.drop_drop,this]
     rw[A,e2]
     simp[bS,List.flatMap_append]
    refine zL (v:=undef) (w':=w) ho Z (fun q G=> ?_)
    have c:=TK w t u q.type e inf ht hu E (x:=v) (n:=k.length) (news:=k.flatMap f) (by rw[g];exact B) b l.length cc (bS f l T) D.head.1 hroom (by rw[g,V,a2];exact a0)
    rw[hC] at c
    have st':=D.set (w':=w.setRow b (bS f (l++k) (T.drop (k.length*kk))).toList.toArray) (o':= .cells (bS f (l++k) (T.drop (k.length*kk))).toList.toArray e (0,0)) ⟨⟨rfl,rfl⟩,rfl,mK⟩ (setRow_heap w b (bS f l T) _ e _ D.head.1) (fun j _ hj=>setRow_other w b j _ hj)
    have a4:St m (dW (some ⟨b,0,none⟩) (bS f (l++k) (T.drop (k.length*kk))) e::own) (w.setRow b (bS f (l++k) (T.drop (k.length*kk))).toList.toArray):=by simpa[dW] using st'
    have A:(l++k).length=l.length+k.length:=jC
    refine⟨.slice (some ⟨b,0,none⟩) (l++k).length cc,_,?_,h (some ⟨b,0,none⟩) cc (T.drop (k.length*kk)) _ ⟨by rw[A];exact hroom,q2,rfl,?_⟩ a4⟩
    .simp only[execOp,G,resolve,Sem.run_bind,Sem.run_pure,Result.andThen_ok,invoke,builtin]
     simp[cB U,cB hy,c,A]
    rw[A,kS,kW];omega
  have a2:cc<l.length+k.length:=by omega
  refine zL (v:=undef) (w':=w) ho Z (fun o G=> ?_)
  have a0:∀w':World,Step w w'->w'.heap=w.heap->(Builtin.firstCells inf.size l.length (.slice a l.length cc)).run P w'= .ok (l.flatMap f).toArray w':=fun w' _ hw=>by
   cases a with
   |none=>
    simp only at F
    have K:l=[]:=jY (by omega)
    subst K
    simp[Builtin.firstCells]
   |some p=>
    simp only at F
    obtain⟨M,hT⟩:=F
    obtain⟨b,o,s⟩:=p
    simp only[Addr.mk.injEq,true_and] at M
    obtain⟨rfl,rfl⟩:=M
    have D:St m (.blk b (.cells (bS f l T) e (0,0))::own) w:=st
    rw[g]
    refine OF (o:=0) (C:=bS f l T) (e:=e) (by rw[hw];exact D.head.1) ?_ Y
    rw[jZ]
    have:=NN (T:=T) H (jT l.length)
    rwa[gT] at this
  have c:=TG (ty:=o.type) w t u e inf z ht hu E hz' (n:=k.length) (news:=k.flatMap f) (by rw[g];exact B) a l.length cc (l.flatMap f)
   a0 (fun w' hs hw=>by rw[g];exact(R w' hs hw).2.1) a2 (by rw[a1];exact k1) k2
  generalize hgc:grownCap w (l.length+k.length) cc e=gc at c
  have M:l.length+k.length<=gc:=hgc▸grownCap_ge _ _ _ _
  have K:gc<=maxLen:=hgc▸grownCap_le_maxLen _ _ _ _ k2
  have D:(l.flatMap f++k.flatMap f).toArray++Builtin.zeroCells z.cells (gc-(l.length+k.length))=bS f (l++k) (Builtin.zeroCells z.cells (gc-(l.length+k.length))).toList:=by
   apply Array.ext';simp[bS]
  rw[D] at c
  have A:(l++k).length=l.length+k.length:=jC
  refine⟨.slice (some ⟨w.heap.size,0,none⟩) (l++k).length gc,_,?_,h (some ⟨w.heap.size,0,none⟩) gc _ _ ⟨by omega,K,rfl,?_⟩ (st.tail.alloc (w':=w.drew.alloc (.cells (bS f (l++k) (Builtin.zeroCells z.cells (gc-(l.length+k.length))).toList) e)) ⟨⟨rfl,rfl⟩,rfl,mK⟩ rfl)⟩
  .simp only[execOp,G,resolve,Sem.run_bind,Sem.run_pure,Result.andThen_ok,invoke,builtin]
   simp[cB U,cB hy,c,A]
  simp only[Array.length_toList,size_zeroCells,a3,A,<-kS]
  congr 1;omega
 cases S
theorem KC{t u e by_:Nat}{x y:Operand}{c:Codec α}{v:Value}{a:Option Addr}{nn cc:Nat}{T:List Value}{l k r:List α}(p:∀m x cs,c.rep m x cs->cs=f x)(A:∀x,(f x).length=c.sz)
  (E:cL ops L i=some (some d,.call {callee:= .builtin .append,args:= #[x,y],argTypes:= #[t,u]})) (z:Nat.blt d n=true)
  (H:bL L x=some (.slice a nn cc)) (K:bL L y=some v) (st:St m (dW a (bS f l T) e::own) w) (F:OAS a nn cc c.sz T) (D:List.length l=nn) (hi:sD P t=some (e,c.sz,by_,c.sz)) (G:sJ P u e)
  (B:Gives P c m v k) (M:cP by_ l k=some r)
  (h:∀a' cap T' w',OAS a' (List.length r) cap c.sz T'->St m (dW a' (bS f r T') e::own) w'->N ((d,.slice a' (List.length r) cap)::L) w'):dN P n ops Q i N L w:=by
 obtain⟨cs,g,o⟩:=B
 obtain rfl:cs=k.flatMap f:=qFz p (g w st.inv).2.2.1 o
 exact JZ A E z H K st F D hi G (fun w' q s=>g w' (st.inv.keep q (fun b _ _=>by rw[s]))) M h
theorem qPw{l:List α}{lo hi:Int}{u:Unit}{nn:Nat}(h:AK l lo hi=some u)(d:List.length l=nn):0<=lo/\lo<=hi/\hi<=(nn:Int):=by
 obtain⟨a,b,c⟩:=WD h
 exact⟨a,b,by omega⟩
end
end Go.Dc
section
namespace Go.Dc
def QN{α σ β ρ:Type}[DecidableEq ρ](f:Option α->σ->Option (σ⊕β))(l:List α)(s:σ)(K:β->Option ρ):Option ρ:=
 match(iU f l s).bind K with
 |none=>none
 |some b=>if((vL l).all fun k=>decide ((iU f k s).bind K=some b))=true then some b else none
theorem qFu{α σ β ρ:Type}[DecidableEq ρ]{f:Option α->σ->Option (σ⊕β)}{l:List α}{s:σ}{K:β->Option ρ}{b:ρ}(h:QN f l s K=some b):∀k,k.Perm l->(iU f k s).bind K=some b:=by
 unfold QN at h
 split at h
 .cases h
 rename_i b' hb
 split at h
 .rename_i hall
  simp only[jL] at h;subst h
  intro k a
  have:=kE.1 hall k (OG a)
  simpa using this
 cases h
def LoopP{α σ β:Type}(f:Option α->σ->Option (σ⊕β))(rem:List α)(s:σ)(Pk:β->Prop)(k:Nat):Prop:=(∀l,l.Perm rem->∃b,iU f l s=some b/\Pk b)/\rem.length<k
theorem LoopP.start{α σ β ρ:Type}[DecidableEq ρ]{f:Option α->σ->Option (σ⊕β)}{l:List α}{s:σ}{K:β->Option ρ}{b:ρ}(h:QN f l s K=some b):∃Pk:β->Prop,(∀o,Pk o->K o=some b)/\LoopP f l s Pk (l.length+1):=
 ⟨fun o=>K o=some b,fun _ h=>h,fun k d=>by obtain⟨o,a,c⟩:=jP.1 (qFu h k d);exact⟨o,a,c⟩,Nat.lt_succ_self _⟩
theorem LoopP.zero{α σ β:Type}{f:Option α->σ->Option (σ⊕β)}{rem:List α}{s:σ}{b:β->Prop}{p:Prop}(h:LoopP f rem s b 0):p:=absurd h.2 (kP _)
theorem LoopP.nil{α σ β:Type}{f:Option α->σ->Option (σ⊕β)}{rem:List α}{s:σ}{b:β->Prop}{k:Nat}(h:LoopP f rem s b (k+1))(g:rem=[]):
  ∃c,f none s=some c/\(∀s',c= .inl s'->LoopP f rem s' b k)/\(∀b',c= .inr b'->b b'):=by
 subst g
 obtain⟨o,this,e⟩:=h.1 [] (.refl _)
 simp only[iU] at this
 obtain⟨c,d,a⟩:=jP.1 this
 refine⟨c,d,?_,?_⟩
 .rintro s' rfl;simp at a
 rintro b' rfl
 simp only[jL] at a
 subst a;exact e
theorem LoopP.cons{α σ β:Type}{f:Option α->σ->Option (σ⊕β)}{rem rest:List α}{e:α}{s:σ}{b:β->Prop}{k:Nat}(h:LoopP f rem s b (k+1))(q:rem.Perm (e::rest)):
  ∃c,f (some e) s=some c/\(∀s',c= .inl s'->LoopP f rest s' b k)/\(∀b',c= .inr b'->b b'):=by
 have t:rem.length=rest.length+1:=by simpa using q.length_eq
 have key:∀l,l.Perm rest->∃o,iU f (e::l) s=some o/\b o:=fun l a=>h.1 _ ((a.cons e).trans q.symm)
 obtain⟨o,d,u⟩:=key rest (.refl _)
 simp only[iU] at d
 obtain⟨c,g,n⟩:=jP.1 d
 refine⟨c,g,?_,?_⟩
 .rintro s' rfl
  refine⟨fun l a=> ?_,by have:=h.2;omega⟩
  obtain⟨o2,p,r⟩:=key l a
  simp only[iU,g,j0] at p
  exact⟨o2,p,r⟩
 rintro b' rfl
 simp only[jL] at n
 subst n;exact u
end Go.Dc
namespace Go.Dc
end Go.Dc
end
namespace Go.Dc
section
open Go.Proofs Go.Shelf Go.Sort
variable {P:Program} {ρ:Ren} {m:Mem} {own:List Piece} {w:World}
end
section
def isQ{α:Type}(o:Option α):Option Unit:=o.map fun _=>()
theorem MapQ.at{κ ν:Type}{ek:κ->Value}{c:Codec ν}{agg:Bool}{m:Mem}{q:Option Nat}{es:Array MapEntry}{ck:Nat}{o:Option (List (κ×ν))}(h:MapQ ek c agg m q es ck o){u:Unit}(a:isQ o=some u):∃b,q=some b:=by
 cases q with
 |none=>
  have h:o=none:=h
  subst h
  cases a
 |some b=>exact⟨b,rfl⟩
section
variable {P:Program} {n:Fr} {ops:Array Oper} {Q:Exit->Act->World->Prop} {L:bJ} {w:World} {ch:List PanicEntry}
theorem bY{K:Act->World->Prop}(h:X n Q (.panic ch) L w):X n (Exit.then K Q) (.panic ch) L w:=h
theorem eZ{id:Nat}(h:X n Q (.panic ch) L w):X n (Exit.inBlock id Q) (.panic ch) L w:=h
theorem cW{k:Nat}{fn:Func}{R:Ending->World->Prop}(h:R (.panicked ch) w):X ⟨k,[]⟩ (bodyPost P fn R) (.panic ch) L w:=fun _ a=>⟨a.2.1,h⟩
variable {N:bJ->World->Prop}
theorem DD{i:Nat}(d f:Nat)(args:Array Value)(q:sX P ops L i=some (some d,f,args))(k:Nat.blt d n=true)
  (h:Calls P f args w fun e w'=>(∃v,e= .returned v/\N ((d,v)::L) w')\/∃ch,e= .panicked ch/\X n Q (.panic ch) L w'):dN P n ops Q i N L w:=by
 obtain⟨o,c,g,r,p,l⟩:=UD q
 intro a b
 unfold nI
 simp only[c,b.wanted r,jJ]
 rw[b.exec p,zO l w,Oper.uponIn_enter]
 refine⟨fun e=>by simp[Fence.wide] at e,CallsIn.mono (callsIn_wide.2 h) ?_⟩
 rintro e w' (⟨v,rfl,hk'⟩|⟨ch,rfl,hk'⟩)
 .rw[g];exact⟨_,b.put k v,hk'⟩
 exact hk' _ b
theorem qHv{i:Nat}{x:Operand}{T:TypeId}{v:Value}(k:cL ops L i=some (none,.panic x))(l:bL L x=some (.iface T v))
  (h:X n Q (.panic [{v:= .iface T v,recovered:=false}]) L w):dN P n ops Q i N L w:=by
 obtain⟨o,d,p,e,f,g⟩:=GX k
 intro a b
 unfold nI
 simp only[d,b.wanted f,jJ]
 rw[b.exec g]
 have c:(execOp (lU L) o).run P w= .halt (.panic (.iface T v)) w:=by
  simp[execOp,e,cB l,Instr.panic]
 rw[c]
 exact h _ b
end
section
variable {P:Program} {n:Fr} {ops:Array Oper} {Q:Exit->Act->World->Prop} {L:bJ} {w:World} {i:Nat}
theorem qKi{f:FuncId}{fn:Func}{c:Code}{args:Array Value}{R:Ending->World->Prop}(e:P.funcs[f]? =some fn)(d:fn.body=some c){k:Nat}(g:fn.ntmps=k)(L:bJ)
  (b:L.map (fun p=>(args[p.1]?))=L.map fun p=>some p.2) (a:Nat.ble args.size k=true) (h:W none P ⟨k,[]⟩ c (bodyPostD P fn R) L w):Calls P f args w R:=by
 refine calls_of_wp_defers e d (wpIn_wide.1 (h _ ⟨?_,rfl,?_⟩))
 .subst g
  have:args.size<=fn.ntmps:=gA a
  simp only[dD,Array.size_replicate];omega
 intro t v n
 have:=(fN.1 b) (t,v) (wS n)
 have l:t<args.size:=(Array.getElem?_eq_some_iff.1 this).1
 simp only[Array.getElem?_append,l,jJ]
 exact this
def QU(P:Program)(ops:Array Oper)(L:bJ)(i:Nat):Option (Option Nat×Deferred):=
 match ops[i]? with
 |none=>none
 |some o=>match mO ops L o.guard with
  |some true=>bif nM L o.op then(match qI P (execOp (lU L) o) with
   |some (.defer d)=>some (o.dst,d)
   |_=>none) else none
  |_=>none
theorem qEv{d:Option Nat}{x:Deferred}(h:QU P ops L i=some (d,x)):
  ∃o,ops[i]? =some o/\o.dst=d/\mO ops L o.guard=some true/\nM L o.op=true/\qI P (execOp (lU L) o)=some (.defer x):=by
 unfold QU at h
 cases e:ops[i]? with
 |none=>simp[e] at h
 |some o=>
  simp only[e] at h
  cases a:mO ops L o.guard with
  |none=>simp[a] at h
  |some b=>
   cases b with
   |false=>simp[a] at h
   |true=>
    simp only[a] at h
    cases c:nM L o.op with
    |false=>simp[c] at h
    |true=>
     simp only[c,cond_true] at h
     split at h
     .rename_i f' he
      simp only[jL,Prod.mk.injEq] at h
      obtain⟨f,rfl⟩:=h
      exact⟨o,rfl,f,a,c,he⟩
     cases h
theorem qKf(x:Deferred)(hi:Nat.blt i ops.size=true)(g:QU P ops L i=some (none,x))(h:WO P ⟨n.sz,x::n.marks⟩ ops Q (i+1) L w):WO P n ops Q i L w:=by
 obtain⟨o,c,d,k,f,e⟩:=qEv g
 intro a b
 rw[GY c,xD]
 unfold nI
 simp only[c,b.wanted k,jJ]
 rw[b.exec f,zO e w,Oper.uponIn_defer,d]
 exact h _ ⟨b.1,congrArg (x:: ·) b.2.1,b.2.2⟩
def noP(Q:Exit->Act->World->Prop):Exit->Act->World->Prop
 | .panic _,_,_=>False
 |e,a,w=>Q e a w
theorem LC{ρ:Option Nat}{y:Code}{Q':Exit->Act->World->Prop}(h:W ρ P n y Q L w):X n (Exit.then (fun a w=>y.wpIn (mW ρ) 0 P Q a w) Q') .normal L w:=h
theorem qIf(h:X n Q .ret L w):X n (noP Q) .ret L w:=h
theorem LN{ρ:Option Nat}{x y:Code}(h:W ρ P n x (Exit.then (fun a w=>y.wpIn (mW ρ) 0 P Q a w) (noP Q)) L w):W ρ P n (.seq x y) Q L w:=fun a d=>by
 refine wpIn_seq (wpIn_mono (h a d) ?_)
 intro e a' w' b
 cases e with
 |panic c=>exact b.elim
 |_=>exact b
theorem qNs{k:Nat}{fn:Func}{R:Ending->World->Prop}(rvs:List ResultVar)(vs:List Value)(e:fn.results=rvs.toArray)(f:ResAll P w L rvs vs)(h:R (.returned (uZ vs)) w):X ⟨k,[]⟩ (bodyPostD P fn R) .ret L w:=by
 intro a d
 obtain⟨b,c⟩:=AA (P:=P) (fn:=fn) (R:=R) rvs vs e f h a d
 show Leaves P fn a.tmps R a.defers .returning w
 rw[b]
 exact c
theorem qOa{k g:Nat}{cap:Array Value}{fn:Func}{R:Ending->World->Prop}(rvs:List ResultVar)(d:fn.results=rvs.toArray)(l:∀args w,(callFunc g args).run P w= .ok (.enter g args) w)
  (h:CallsD P g (#[]++cap) .returning w fun e u w'=>u= .returning/\∃v,e= .returned v/\∃vs,ResAll P w' L rvs vs/\R (.returned (uZ vs)) w'):
  X ⟨k,[{target:= .fn (.func g) cap,args:= #[]}]⟩ (bodyPostD P fn R) .ret L w:=by
 intro a b
 show Leaves P fn a.tmps R a.defers .returning w
 rw[b.2.1]
 refine leaves_cons (by simp) (f:=g) (args:= #[]++cap) (by simp only[invoke];exact l _ _) (h.mono ?_)
 rintro e u w' ⟨rfl,v,rfl,vs,n,c⟩
 obtain⟨_,v',o,hR'⟩:=AA (P:=P) (k:=a.tmps.size) (fn:=fn) (R:=R) rvs vs d n c {a with defers:=[]} ⟨rfl,rfl,b.2.2⟩
 exact⟨v',o,hR'⟩
theorem qOl{k g:Nat}{cap:Array Value}{fn:Func}{z:Value}{R:Ending->World->Prop}(rvs:List ResultVar)(d:fn.results=rvs.toArray)(l:∀args w,(callFunc g args).run P w= .ok (.enter g args) w)
  (h:CallsD P g (#[]++cap) (.panicking [{v:=z,recovered:=false}]) w fun e u w'=>u= .panicking [{v:=z,recovered:=true}]/\∃v,e= .returned v/\∃vs,ResAll P w' L rvs vs/\R (.returned (uZ vs)) w'):
  X ⟨k,[{target:= .fn (.func g) cap,args:= #[]}]⟩ (bodyPostD P fn R) (.panic [{v:=z,recovered:=false}]) L w:=by
 intro a b
 show Leaves P fn a.tmps R a.defers (.panicking [{v:=z,recovered:=false}]) w
 rw[b.2.1]
 refine leaves_cons (by simp) (f:=g) (args:= #[]++cap) (by simp only[invoke];exact l _ _) (h.mono ?_)
 rintro e u w' ⟨rfl,v,rfl,vs,n,c⟩
 obtain⟨_,v',o,hR'⟩:=AA (P:=P) (k:=a.tmps.size) (fn:=fn) (R:=R) rvs vs d n c {a with defers:=[]} ⟨rfl,rfl,b.2.2⟩
 exact⟨v',o,hR'⟩
def RS(P:Program)(ops:Array Oper)(L:bJ)(i:Nat):Option Nat:=
 match ops[i]? with
 |none=>none
 |some o=>match mO ops L o.guard with
  |some true=>bif nM L o.op then(match qI P (execOp (lU L) o) with
   |some .recover=>o.dst
   |_=>none) else none
  |_=>none
theorem qGw{d:Nat}(h:RS P ops L i=some d):
  ∃o,ops[i]? =some o/\o.dst=some d/\mO ops L o.guard=some true/\nM L o.op=true/\qI P (execOp (lU L) o)=some .recover:=by
 unfold RS at h
 cases e:ops[i]? with
 |none=>simp[e] at h
 |some o=>
  simp only[e] at h
  cases a:mO ops L o.guard with
  |none=>simp[a] at h
  |some b=>
   cases b with
   |false=>simp[a] at h
   |true=>
    simp only[a] at h
    cases c:nM L o.op with
    |false=>simp[c] at h
    |true=>
     simp only[c,cond_true] at h
     split at h
     .rename_i he;exact⟨o,rfl,h,a,c,he⟩
     cases h
theorem PT{QS:Exit->Act->List Frame->World->Prop}{cs:List Frame}:∀(k i:Nat) (L L':bJ) (w:World),rW P n ops k i L=some L'->
  (∀a,Fits n a L'->wpOpsS P ops QS (List.range' (i+k) (ops.size-(i+k))) a cs w)->∀a,Fits n a L->wpOpsS P ops QS (List.range' i (ops.size-i)) a cs w
 |0,i,L,L',w,h,g=>by simp[rW] at h;subst h;exact g
 |k+1,i,L,L',w,h,g=>by
  intro a f
  simp only[rW] at h
  cases l:ops[i]? with
  |none=>simp[l] at h
  |some o=>
   simp only[l] at h
   rw[GY l]
   simp only[wpOpsS,l]
   cases q:mO ops L o.guard with
   |none=>simp[q] at h
   |some b=>
    have c:=f.wanted q
    cases b with
    |false=>
     simp only[q] at h
     obtain⟨L1,r,s⟩:=jP.1 h
     simp only[c,jB,jI]
     exact PT k (i+1) L1 L' w s (by rw[gS,fS 1 k];exact g) _ (f.putL r)
    |true=>
     simp only[q] at h
     cases e:nM L o.op with
     |false=>simp[e] at h
     |true=>
      simp only[e,cond_true] at h
      obtain⟨v,p,h⟩:=jP.1 h
      obtain⟨L1,r,s⟩:=jP.1 h
      simp only[c,jJ]
      have next:=PT k (i+1) L1 L' w s (by rw[gS,fS 1 k];exact g) _ (f.putL r)
      rw[f.exec e]
      cases d:qI P (execOp (lU L) o) with
      |none=>simp[d,JB] at p
      |some nx=>
       rw[zO d w]
       cases nx<;>simp[d,JB] at p
       case value u=>subst p;exact next
       case skip=>subst p;exact next
theorem qIp{fn:Func}{args:Array Value}{k:Nat}(c:fn.ntmps=k)(b:L.map (fun p=>(args[p.1]?))=L.map fun p=>some p.2)(a:Nat.ble args.size k=true):
  Fits ⟨k,[]⟩ {tmps:=args++Array.replicate (fn.ntmps-args.size) undef,defers:=[]} L:=by
 refine⟨?_,rfl,?_⟩
 .subst c
  have:args.size<=fn.ntmps:=gA a
  simp only[dD,Array.size_replicate];omega
 intro t v e
 have:=(fN.1 b) (t,v) (wS e)
 have d:t<args.size:=(Array.getElem?_eq_some_iff.1 this).1
 simp only[Array.getElem?_append,d,jJ]
 exact this
def IM:FrameMode->Value×FrameMode
 | .panicking ({v,recovered:=false,goexit:=false}::older)=>(v,.panicking ({v,recovered:=true}::older))
 |u=>(.nilIface,u)
theorem UL{g:FuncId}{fn:Func}{id:Nat}{rest:Code}{args:Array Value}{R:Ending->World->Prop}(u:FrameMode)(H:P.funcs[g]? =some fn)(F:fn.body=some (.seq (.region id ops false) rest)){k:Nat}(M:fn.ntmps=k)(L:bJ)
  (E:L.map (fun p=>(args[p.1]?))=L.map fun p=>some p.2) (A:Nat.ble args.size k=true) {d:Nat} (S:RS P ops L 0=some d) (z:Nat.blt d k=true) (L':bJ) (v:Value) (u':FrameMode) (hu':IM u=(v,u'))
  (U:rW P k ops (ops.size-1) 1 ((d,v)::L)=some L')
  (h:W none P ⟨k,[]⟩ rest (bodyPost P fn R) L' w):CallsD P g args u w fun e b w'=>b=u'/\R e w':=by
 refine callsD_of_wpS H F fun c₀ cs V=> ?_
 apply wpS_seq
 apply wpS_region
 have f:Fits ⟨k,[]⟩ _ L:=qIp M E A
 revert f
 generalize ({tmps:=args++Array.replicate (fn.ntmps-args.size) undef,defers:=[]}:Act)=a
 intro f
 obtain⟨o,t,x,Y,K,G⟩:=qGw S
 have D:List.range ops.size=List.range' 0 (ops.size-0):=by rw[List.range_eq_range',Nat.sub_zero]
 rw[D,GY t]
 simp only[wpOpsS,t,f.wanted Y,jJ]
 rw[f.exec K,zO G w]
 have c:∀cs',(∃b,b=u'/\cs'={c₀ with mode:=b}::cs)->∀a,Fits ⟨k,[]⟩ a ((d,v)::L)->wpOpsS P ops (Exit.thenS (rest.wpS P (bodyPostS P fn c₀ cs fun e b w'=>b=u'/\R e w')) (bodyPostS P fn c₀ cs fun e b w'=>b=u'/\R e w')) (List.range' (0+1) (ops.size-(0+1))) a cs' w:=by
  rintro cs' ⟨b,rfl,rfl⟩
  refine PT _ 1 _ _ w U ?_
  intro B y
  have:ops.size-(1+(ops.size-1))=0:=by omega
  rw[this]
  simp only[List.range'_zero,wpOpsS,Exit.thenS]
  refine wpS_of_wp (wpIn_wide.1 (wpIn_mono (h B y) ?_))
  intro e Z w2 l
  cases e with
  |normal=>obtain⟨n,q,r,s⟩:=l;exact⟨n,_,rfl,q,r,rfl,s⟩
  |ret=>obtain⟨n,q,r,s⟩:=l;exact⟨n,_,rfl,q,r,rfl,s⟩
  |panic ch=>obtain⟨n,q⟩:=l;exact⟨n,_,rfl,rfl,q⟩
  |outgrown=>exact⟨_,rfl,l⟩
  |exit _=>exact l.elim
  |goto _=>exact l.elim
 subst V
 have key:recoverD (c₀::cs)=(match IM c₀.mode with|(v,b)=>match c₀.mode with
   | .panicking ({v:=_,recovered:=false,goexit:=false}::_)=>some (v,{c₀ with mode:=b}::cs)
   |_=>none):=by
  unfold recoverD IM
  dsimp only
  split<;>simp_all
 rw[key,hu']
 dsimp only
 split
 .rename_i v1 cs1 hm
  split at hm
  .obtain⟨rfl,rfl⟩:=Prod.mk.inj (jG hm)
   rw[x]
   exact c _ ⟨_,rfl,rfl⟩ _ (f.put z v)
  cases hm
 rename_i hm
 have l:IM c₀.mode=(.nilIface,c₀.mode):=by
  unfold IM
  split
  .rename_i hc;rw[hc] at hm;cases hm
  rfl
 rw[l] at hu'
 obtain⟨rfl,rfl⟩:=Prod.mk.inj hu'
 rw[x]
 exact c _ ⟨_,rfl,by cases c₀;rfl⟩ _ (f.put z _)
end
def cH(s:Bool)(b:Nat):Option Addr:=if s then some ⟨b,0,none⟩ else none
theorem oD(s:Bool)(b:Nat){q:Prop}(h:q):(cH s b=none/\q)\/cH s b=some ⟨b,0,none⟩:=by
 cases s
 .exact .inl ⟨rfl,h⟩
 exact .inr rfl
section
variable {P:Program} {n:Fr} {ops:Array Oper} {Q:Exit->Act->World->Prop} {i d:Nat} {L:bJ} {w:World} {m:Mem} {own:List Piece} {N:bJ->World->Prop}
theorem PO{b:Nat}{c:Array Value}{e:TypeId}{f:Nat×Nat}(a:w.heap[b]? =some (.cells c e f)):w.shape? b=some (e,c.size):=by
 simp[World.shape?,a]
theorem qFb{src dst t:TypeId}{x:Operand}{b:Nat}{c:Array Value}{e:TypeId}{f:Nat×Nat}(l:cL ops L i=some (some d,.convert src dst x))(k:Nat.blt d n=true)
  (v:bL L x=some (.pointer (some ⟨b,0,none⟩))) (o:Piece.holds m w (.blk b (.cells c e f))) (s:P.underlying src=some (.pointer t)) (u:P.underlying dst=some .unsafePointer) (a:((P.info? t).map fun j=>Nat.blt 0 j.size)=some true) (g:Nat.blt 0 c.size=true)
  (h:N ((d,.pointer (some ⟨b,0,none⟩))::L) w):dN P n ops Q i N L w:=by
 refine lL l k (fun q p=> ?_) h
 cases hi:P.info? t with
 |none=>simp[hi] at a
 |some j=>
  simp only[hi,gO,jL] at a
  rw[Nat.blt_eq] at a g
  have r:=Lib.run_to_unsafe (P:=P) (w:=w) (src:=src) (dst:=dst) ⟨b,0,none⟩ s u hi (by omega) (PO o.1) g
  simp[execOp,p,cB v,r]
theorem qEb{src dst u:TypeId}{x:Operand}{b:Nat}{c:Array Value}{e:TypeId}{f:Nat×Nat}(l:cL ops L i=some (some d,.convert src dst x))(a:Nat.blt d n=true)
  (v:bL L x=some (.pointer (some ⟨b,0,none⟩))) (o:Piece.holds m w (.blk b (.cells c e f))) (s:P.underlying src=some .unsafePointer) (t:P.underlying dst=some (.pointer u)) (g:(P.info? u).isSome=true) (k:liesAt P P.depth e (c.size/P.cellsOf e) 0 u 1=true)
  (h:N ((d,.pointer (some ⟨b,0,none⟩))::L) w):dN P n ops Q i N L w:=by
 refine lL l a (fun q p=> ?_) h
 obtain⟨j,hi⟩:=Option.isSome_iff_exists.1 g
 have r:=Lib.run_from_unsafe (P:=P) (w:=w) (src:=src) (dst:=dst) ⟨b,0,none⟩ s t hi (PO o.1) k
 simp[execOp,p,cB v,r]
theorem qFa{f:FuncId}{fn:Func}{x:Operand}{ts:Array TypeId}{v:Value}(g:cL ops L i=some (some d,.call {callee:= .value (.func f),args:= #[x],argTypes:=ts}))(c:Nat.blt d n=true)
  (k : bL L x = some v) (e : P.funcs[f]? = some fn) (a : (fn.name == "runtime.NumGoroutine", fn.body.isNone, (Extern.findNext fn).isNone) = (false, true, true)) (b : Extern.find fn = some Extern.AbiNoEscape.same)
  (h:N ((d,v)::L) w):dN P n ops Q i N L w:=
 OC [v] _ g c (by simp[cB k]) e a b (by rfl) h
theorem qFi{t t2 r:TypeId}{x y:Operand}{a:Addr}(e:cL ops L i=some (some d,.binOp .neq t x y t2))(c:Nat.blt d n=true)(l:bL L x=some (.pointer (some a)))(o:bL L y=some (.pointer (some a)))
  (k:P.underlying t=some (.pointer r)) (b:((P.info? r).map fun j=>Nat.blt 0 j.size)=some true) (h:N ((d,.bool false)::L) w):dN P n ops Q i N L w:=by
 refine lL e c (fun q f=> ?_) h
 cases hi:P.info? r with
 |none=>simp[hi] at b
 |some j=>
  simp only[hi,gO,jL] at b
  rw[Nat.blt_eq] at b
  have g:=Lib.run_neq_ptr_same (P:=P) w a k hi
  simp[execOp,f,cB l,cB o,g,eqGuard]
def IL{α:Type}:List α->Option Unit
 |[]=>none
 |_::_=>some ()
theorem ZP{α:Type}{l:List α}{u:Unit}(h:IL l=some u):l≠[]:=by
 cases l with
 |nil=>cases h
 |cons a l=>simp
theorem RepS.some_of{α:Type}{c:Codec α}{a:Option Addr}{cap:Nat}{l:List α}(h:RepS c m a cap l)(b:l≠[]):∃p,a=some p/\cap≠0:=by
 have d:0<l.length:=fU.2 b
 have e:=h.1
 cases a with
 |none=>obtain⟨rfl,-⟩:=h.none_nil;exact absurd rfl b
 |some p=>exact⟨p,rfl,by omega⟩
theorem TJ{α:Type}{c:Codec α}{t:TypeId}{x:Operand}{a:Option Addr}{cap:Nat}{l:List α}(q:cL ops L i=some (some d,.call {callee:= .builtin .unsafeSliceData,args:= #[x],argTypes:= #[t]}))(g:Nat.blt d n=true)
  (s:bL L x=some (.slice a l.length cap)) (r:RepS c m a cap l) (k:l≠[]) (h:N ((d,.pointer a)::L) w):dN P n ops Q i N L w:=by
 obtain⟨p,rfl,e⟩:=r.some_of k
 refine zL (v:=undef) (w':=w) q g (fun o f=> ?_)
 refine⟨_,w,?_,h⟩
 have b:=Lib.run_unsafeSliceData_row (P:=P) (w:=w) #[t] o.type p l.length cap e
 simp[execOp,f,resolve,invoke,builtin,cB s,b]
theorem St.freezeB{g n' cap e sz k:Nat}(h:St m (.room (some ⟨g,0,none⟩) n' cap e sz::own) w):St m own (w.freeze ⟨g,0,none⟩ k):=by
 have d:=h.tail
 obtain⟨-,-,-,-,⟨cur,n,-⟩,-,l⟩:=h.head
 have y:=h.head_ne (b:=g) rfl
 by_cases hk0:k=0
 .subst hk0;exact d
 have t:(w.freeze ⟨g,0,none⟩ k).heap=w.heap.modify g fun x=>match x with
   | .cells c elem (lo,hi)=> .cells c elem (if lo==hi then(0,0+k) else(min lo 0,max hi (0+k)))
   |o=>o:=by unfold World.freeze;rw[if_neg hk0];rfl
 have r:∀b,b≠g->(w.freeze ⟨g,0,none⟩ k).heap[b]? =w.heap[b]? :=fun b a=>by rw[t,Array.getElem?_modify,if_neg (fun h=>a h.symm)]
 have A:Step m.wd (w.freeze ⟨g,0,none⟩ k):=by
  have:=d.1.2.2
  unfold World.freeze
  rw[if_neg hk0]
  exact this
 refine⟨⟨fun b o v B=> ?_,fun b x s=> ?_,A⟩,fun p z=>Piece.holds_keep (d.2.1 p z) fun b a=>r b fun e=>y (by subst e;exact CS.2 ⟨p,z,a⟩),d.2.2⟩
 .obtain⟨c,e',f,q,u⟩:=d.1.1 b o v B
  by_cases a:b=g
  .subst a
   have n:w.heap[b]? =some (.cells cur e (0,0)):=n
   rw[n] at q
   cases q
   refine⟨cur,e,(if(0:Nat)==0 then(0,0+k) else(min 0 0,max 0 (0+k))),?_,u⟩
   rw[t,Array.getElem?_modify,if_pos rfl,n];rfl
  exact⟨c,e',f,by rw[r b a];exact q,u⟩
 by_cases a:b=g
 .subst a;have l:m.obj b=none:=l;rw[l] at s;cases s
 rw[r b a];exact d.1.2.1 b x s
theorem SY{pt it e:TypeId}{x y:Operand}{a:Option Addr}{cap:Nat}{l:List UInt8}(H:cL ops L i=some (some d,.call {callee:= .builtin .unsafeString,args:= #[x,y],argTypes:= #[pt,it]}))(F:Nat.blt d n=true)
  (M:bL L x=some (.pointer a)) (R:bL L y=some (.int .i64 (l.length:Int))) (b:St m (.room a l.length cap e 1::own) w) (c:RepS iX m a cap l) (q:l≠[]) (K:P.underlying pt=some (.pointer e)) (E:P.cellsOf e=1)
  (h:∀w',St m own w'->N ((d,.string (cQ l))::L) w'):dN P n ops Q i N L w:=by
 obtain⟨p,rfl,S⟩:=c.some_of q
 obtain⟨r,t,k3,U,⟨cur,u,V⟩,-,-⟩:=b.head
 obtain⟨g,o,s⟩:=p
 simp only at r t u
 subst r;subst t
 refine zL (v:=undef) (w':=w) H F (fun o A=> ?_)
 refine⟨_,w.freeze ⟨g,0,none⟩ l.length,?_,h _ b.freezeB⟩
 have k:=Lib.run_unsafeString_row (P:=P) (w:=w) pt it o.type e K E g cur.size (PO u) l q (by omega) (by have:=c.1;have:=c.2.1;unfold maxLen at*;omega) (fun j x G=>by
  obtain⟨cs,f,z⟩:=c.2.2.2 j x G
  have f:cs=[.int .u8 x.toNat]:=f
  have B:=z 0 (.int .u8 x.toNat) (by rw[f];rfl)
  have D:=b.inv.cell B
  rw[wQ]
  simpa[iX] using D)
 simp[execOp,A,resolve,invoke,builtin,cB M,cB R,k,cQ]
end
end
section
open Go.Proofs
def oZ(n:Int):BA:=⟨(Lib.itoa n).toArray⟩
def LY(n:Int):Option BA:=if-9223372036854775808<=n/\n<=9223372036854775807 then some (oZ n) else none
def qOf:Array Value:=(Lib.pow10Tab.map fun z=>Value.int .u64 z).toArray
theorem qKv:((1:Nat),qOf)∈RU:=kI.2 (congrArg (Prod.mk (1:Nat)) (by kernel_rfl))
theorem qGp {P : Program} {ρ : Go.Shelf.Ren} (L : LaysM.n171 P ρ) {m : Mem} {own : List Piece} {w : World} {n : Int} {r : BA} (l : P.globalNamed "internal/strconv.uint64pow10" = some (1 : Nat)) (st : St m own w) (h : LY n = some r) :
  Calls P (ρ.f 171) #[.int .i64 n] w fun e w'=>∃(m':Mem),e= .returned (.string r)/\m.le m'/\St m' own w':=by
 unfold LY at h
 split at h
 .rename_i a
  obtain rfl:=jG h
  have c : Lib.TabIs P w "internal/strconv.uint64pow10" .u64 Lib.pow10Tab := by
   obtain⟨t,f,d⟩:=m.ht _ qKv
   have g:=st.inv.2.1 _ _ d
   unfold Lib.TabIs World.var?
   rw[l]
   simp only[j0,g]
   rfl
  refine(Any.strconv_Itoa L n a.1 a.2 w c).mono fun e w' d=> ?_
  obtain⟨rfl,k,os,rfl⟩:=d
  refine⟨m,rfl,m.le_refl,st.grow ⟨⟨rfl,rfl⟩,rfl,fun _=>Nat.le_add_right _ _⟩ fun b a=> ?_⟩
  show(w.heap++os)[b]? =_
  rw[Array.getElem?_append_left a]
 cases h
def DO(l:List BA)(sep:BA):BA:=⟨(Lib.join (l.map (·.data.toList)) sep.data.toList).toArray⟩
def MA(l:List BA)(sep:BA):Option BA:=if 0<(DO l sep).size/\(DO l sep).size<=281474976710656/\l.length<=140737488355328 then some (DO l sep) else none
theorem qGb{P:Program}{ρ:Go.Shelf.Ren}(L:Go.Proofs.Lays.n156 P ρ)(X:Go.Proofs.Builder.Extra P ρ){m:Mem}{own:List Piece}{w:World}{a:Option Addr}{c:Nat}{l:List BA}{sep r:BA}(st:St m own w)(B:RepS aH m a c l)(n:2<=l.length)(h:MA l sep=some r):
  Calls P (ρ.f 156) #[.slice a l.length c,.string sep] w fun e w'=>∃(m':Mem),e= .returned (.string r)/\m.le m'/\St m' own w':=by
 unfold MA at h
 split at h
 .rename_i hb
  obtain rfl:=jG h
  obtain⟨A,F,k3⟩:=B
  have v:(DO l sep).size=(Lib.join (l.map (·.data.toList)) sep.data.toList).length:=by simp[DO,ByteArray.size]
  rw[v] at hb
  cases a with
  |none=>
   have:c=0:=k3
   omega
  |some p=>
   obtain⟨D,E⟩:=k3
   have s:p.spot=none:=by
    rcases D with g|g
    .exact g
    rw[g] at n;cases n
   obtain⟨b,o,sp⟩:=p
   have s:sp=none:=s
   subst s
   have u:∀(j:Nat) x,l[j]? =some x->w.cell? ⟨b,o+j,none⟩=some (.string x):=fun j x z=>by
    obtain⟨cs,d,q⟩:=E j x z
    have d:cs=[.string x]:=d
    subst d
    have:=st.inv.cell (q 0 (.string x) rfl)
    simpa[aH] using this
   have t:b<w.heap.size:=by
    have:=u 0 l[0] (List.getElem?_eq_getElem (by omega))
    unfold World.cell? at this
    split at this
    .rename_i q
     exact sT q
    cases this
   refine(Any.strings_Join_many_big L X b o c l.toArray.toList sep w u t n hb.2.2 A hb.2.1 hb.1).mono fun e w' q=> ?_
   obtain⟨rfl,d⟩:=q
   exact⟨m,rfl,m.le_refl,st.grow ⟨⟨d.os,d.output⟩,d.tape,fun h=>by cases h⟩ fun k y=>d.block k y⟩
 cases h
end
section
abbrev V4:=Value×Value×Value×Value
def oK(x:V4):List Value:=[x.1,x.2.1,x.2.2.1,x.2.2.2]
abbrev V5:=Value×Value×Value×Value×Value
def lT(x:V5):List Value:=[x.1,x.2.1,x.2.2.1,x.2.2.2.1,x.2.2.2.2]
theorem qKc{x:V5}{a b c d g:Value}(h:lT x=[a,b,c,d,g]):x=(a,b,c,d,g):=by
 obtain⟨x1,e,f,k,x5⟩:=x
 simp only[lT,kV,and_true] at h
 obtain⟨rfl,rfl,rfl,rfl,rfl⟩:=h
 rfl
theorem QB:∀{cs:List Value},cs.length=5->∃x,lT x=cs
 |[a,b,c,d,g],_=>⟨(a,b,c,d,g),rfl⟩
variable {V:Type} {row:V->List Value}
def RowsG{α:Type}(row:V->List Value)(c:Codec α)(m:Mem)(vs:List V)(l:List α):Prop:=vs.length=l.length/\∀(i:Nat) x v,l[i]? =some x->vs[i]? =some v->c.rep m x (row v)
abbrev qPl{α:Type}(c:Codec α)(m:Mem)(vs:List V4)(l:List α):Prop:=RowsG oK c m vs l
abbrev tV{α:Type}(c:Codec α)(m:Mem)(vs:List V5)(l:List α):Prop:=RowsG lT c m vs l
theorem RowsG.nil{α:Type}{c:Codec α}{m:Mem}:RowsG row c m [] ([]:List α):=⟨rfl,fun i x v h _=>by simp at h⟩
theorem RowsG.mono{α:Type}{c:Codec α}{m m':Mem}{vs:List V}{l:List α}(h:RowsG row c m vs l)(a:m.le m'):RowsG row c m' vs l:=⟨h.1,fun i x v b d=>c.mono _ _ _ _ a (h.2 i x v b d)⟩
theorem RowsG.idx{α:Type}{c:Codec α}{m:Mem}{vs:List V}{l:List α}{ix:Int}{z:α}(h:RowsG row c m vs l)(f:Dc.idx l ix=some z):∃v cs,Dc.idx vs ix=some v/\row v=cs/\c.rep m z cs:=by
 obtain⟨b,d,e⟩:=zU f
 have a:ix.toNat<vs.length:=by rw[h.1];exact e
 refine⟨vs[ix.toNat],_,?_,rfl,h.2 _ _ _ d (List.getElem?_eq_getElem a)⟩
 unfold Dc.idx
 rw[if_pos b]
 exact List.getElem?_eq_getElem a
theorem RowsG.set{α:Type}{c:Codec α}{m:Mem}{vs:List V}{l:List α}(h:RowsG row c m vs l)(i:Nat){u:α}{v:V}(d:c.rep m u (row v)):RowsG row c m (vs.set i v) (l.set i u):=by
 refine⟨by rw[gE,gE,h.1],fun j x w a b=> ?_⟩
 rw[List.getElem?_set] at a b
 by_cases hj:i=j
 .subst hj
  rw[if_pos rfl] at a b
  split at a
  .split at b
   .cases a;cases b;exact d
   cases b
  cases a
 rw[if_neg hj] at a b
 exact h.2 j x w a b
theorem RowsG.cut{α:Type}{c:Codec α}{m:Mem}{vs:List V}{l r:List α}{hi:Int}(h:RowsG row c m vs l)(a:nH l 0 hi=some r):∃vr,nH vs 0 hi=some vr/\RowsG row c m vr r:=by
 unfold nH at a ⊢
 split at a
 .rename_i hc
  rw[if_pos (by rw[h.1];exact hc)]
  simp only[jL,gZ,jZ] at a ⊢
  subst a
  refine⟨_,rfl,by rw[kL,kL,h.1],fun i x v b d=> ?_⟩
  rw[List.getElem?_take] at b d
  split at b
  .rename_i hi
   rw[if_pos hi] at d
   exact h.2 i x v b d
  cases b
 cases a
theorem RowsG.app{α:Type}{c:Codec α}{m:Mem}{vs vk:List V}{l k r:List α}{by_:Nat}(h:RowsG row c m vs l)(e:RowsG row c m vk k)(a:cP by_ l k=some r):∃vr,cP by_ vs vk=some vr/\RowsG row c m vr r:=by
 unfold cP at a ⊢
 split at a
 .rename_i hc
  rw[if_pos (by rw[h.1,e.1];exact hc)]
  simp only[jL] at a
  subst a
  refine⟨_,rfl,by rw[jC,jC,h.1,e.1],fun i x v b d=> ?_⟩
  rcases fR i l.length with hi|hi
  .rw[List.getElem?_append_left hi] at b
   rw[List.getElem?_append_left (by rw[h.1];exact hi)] at d
   exact h.2 i x v b d
  rw[List.getElem?_append_right hi] at b
  rw[List.getElem?_append_right (by rw[h.1];exact hi),h.1] at d
  exact e.2 _ x v b d
 cases a
theorem Gives.rowsG{P:Program}{α:Type}{c:Codec α}{m:Mem}{x:Value}{k:List α}{kk:Nat}{w:World}(t:Inv m w)(D:∀x,(row x).length=kk)(o:∀{cs:List Value},cs.length=kk->∃x,row x=cs)(s:c.sz=kk)(h:Gives P c m x k):∃vs,(∀w:World,Inv m w->xH P w kk x k.length (vs.flatMap row))/\RowsG row c m vs k:=by
 obtain⟨cs,n,r⟩:=h
 subst s
 have key:∀(l:List α) (cs:List Value),cs.length=l.length*c.sz->(∀i y,l[i]? =some y->c.rep m y ((cs.drop (i*c.sz)).take c.sz))->∃vs,vs.flatMap row=cs/\RowsG row c m vs l:=by
  intro l
  induction l with
  |nil=>
   intro cs d _
   simp only[jF,hO] at d
   exact⟨[],(jY d).symm,RowsG.nil⟩
  |cons y l B=>
   intro cs d p
   simp only[jD,Nat.succ_mul] at d
   obtain⟨vs,e,g⟩:=B (cs.drop c.sz) (by rw[kW];omega) (fun i z A=>by
    have:=p (i+1) z (by simpa using A)
    rw[List.drop_drop]
    rwa[Nat.succ_mul,fS] at this)
   obtain⟨v,q⟩:=o (cs:=cs.take c.sz) (by rw[kL];omega)
   have f:=p 0 y rfl
   rw[hO,jZ] at f
   refine⟨v::vs,by rw[kF,q,e,gI],by simp[g.1],fun i z u a b=> ?_⟩
   cases i with
   |zero=>simp at a b;subst a;subst b;rw[q];exact f
   |succ i=>exact g.2 i z u (by simpa using a) (by simpa using b)
 obtain⟨vs,e,g⟩:=key k cs (n w t).2.2.1 r
 exact⟨vs,fun w hi=>by rw[e];exact n w hi,g⟩
section
variable {P:Program} {n:Fr} {ops:Array Oper} {Q:Exit->Act->World->Prop} {i d:Nat} {L:bJ} {w:World} {m:Mem} {own:List Piece} {N:bJ->World->Prop}
variable {α:Type}
theorem NP{t u e by_ kk:Nat}{x y:Operand}{c:Codec α}{v:Value}{a:Option Addr}{nn cc:Nat}{T:List Value}{vs:List V}{l k r:List α}(q:∀x,(row x).length=kk)(p:∀{cs:List Value},cs.length=kk->∃x,row x=cs)(B:c.sz=kk)
  (G:cL ops L i=some (some d,.call {callee:= .builtin .append,args:= #[x,y],argTypes:= #[t,u]})) (D:Nat.blt d n=true)
  (S:bL L x=some (.slice a nn cc)) (U:bL L y=some v) (st:St m (dW a (bS row vs T) e::own) w) (K:OAS a nn cc kk T) (F:List.length vs=nn) (H:RowsG row c m vs l) (hi:sD P t=some (e,kk,by_,kk)) (M:sJ P u e)
  (E:Gives P c m v k) (Y:cP by_ l k=some r)
  (h:∀(vr:List V) a' cap T' w',List.length vr=List.length r->RowsG row c m vr r->OAS a' (List.length r) cap kk T'->St m (dW a' (bS row vr T') e::own) w'->N ((d,.slice a' (List.length r) cap)::L) w'):dN P n ops Q i N L w:=by
 obtain⟨vk,g,rk⟩:=Gives.rowsG st.inv q p B E
 obtain⟨vr,R,f⟩:=H.app rk Y
 refine JZ q G D S U st K F hi M (fun w' z A=>by rw[rk.1];exact g w' (st.inv.keep z (fun b _ _=>by rw[A]))) R fun a' cap T' w' o s=> ?_
 rw[f.1] at o ⊢
 exact h vr a' cap T' w' f.1 f o s
theorem St.freezeG{c:Codec α}{k:Nat}{a:Option Addr}{e nn cc:Nat}{vs:List V}{l:List α}{T:List Value}(u:∀x,(row x).length=k)(t:c.sz=k)(st:St m (dW a (bS row vs T) e::own) w)(R:OAS a nn cc k T)(M:List.length vs=nn)(D:RowsG row c m vs l):
  ∃m',m.le m'/\St m' (.room a (List.length l) cc e c.sz::own) w/\RepS c m' a cc l:=by
 obtain⟨Z,y,h⟩:=R
 have f:=D.1
 cases a with
 |none=>
  simp only at h
  have d:l=[]:=jY (by omega)
  subst d;subst h
  exact⟨m,m.le_refl,st.tail.nilroom e c.sz,RepS.nil c m⟩
 |some p=>
  simp only at h
  obtain⟨B,H⟩:=h
  obtain⟨b,o,s⟩:=p
  simp only[Addr.mk.injEq,true_and] at B
  obtain⟨rfl,rfl⟩:=B
  have r:=iP u vs
  have E:(bS row vs T).toList.take (vs.flatMap row).length=vs.flatMap row:=by simp[bS]
  have d:St m (.blk b (.cells (bS row vs T) e (0,0))::own) w:=st
  obtain⟨m',F,S,k3,U,Y,k6⟩:=St.know (b:=b) (cs:=vs.flatMap row) d.tail (d.head_ne rfl) d.head.1 E (fun o v g=>by rw[d.head.2.1 o] at g;cases g)
  have n:(bS row vs T).size=cc*k:=by simp[bS,r,M,H]
  refine⟨m',F,S.cons ⟨rfl,rfl,by omega,y,⟨_,d.head.1,by rw[t];exact n⟩,fun o A=>U o (by rw[r];rw[t,<-f] at A;exact A),by rw[Y];exact d.head.2.2⟩ ?_,?_⟩
  .intro k z;simp[Piece.block] at z;subst z;exact d.head_ne rfl
  exact RepS.of_cells (cs:=vs.flatMap row) (by omega) y (fun j x z=>by
   have K:j<vs.length:=by rw[f];exact(List.getElem?_eq_some_iff.1 z).1
   have g:=List.getElem?_eq_getElem K
   have G:((vs.flatMap row).drop (j*c.sz)).take c.sz=row (vs[j]):=by
    rw[t]
    apply fO
    intro q
    rw[List.getElem?_take]
    split
    .rename_i hq
     rw[List.getElem?_drop,CX u vs j _ q g hq]
    rename_i hq;rw[List.getElem?_eq_none (by rw[u];omega)]
   rw[G];exact c.mono _ _ _ _ F (D.2 j x _ z g)) k3
end
end
section
section
variable {P:Program} {n:Fr} {ops:Array Oper} {Q:Exit->Act->World->Prop} {i d:Nat} {L:bJ} {w:World} {m:Mem} {own:List Piece} {N:bJ->World->Prop}
variable {α:Type}
theorem qJn{f:α->List Value}{k n nn cc:Nat}{a:Option Addr}{T:List Value}{l:List α}{lo hi:Int}(g:∀x,(f x).length=k)(r:∀x,∀v∈f x,v.oneCell'=true)
  (st:St m (dW a (bS f l T) n::own) w) (y:OAS a nn cc k T) (B:List.length l=nn) (d:0<=lo/\lo<=hi/\hi<=(nn:Int)):
  ∀w':World,Step w w'->w'.heap=w.heap->xH P w' k (.slice (qH a cc lo.toNat k) (hi.toNat-lo.toNat) (cc-lo.toNat)) ((l.take hi.toNat).drop lo.toNat).length (((l.take hi.toNat).drop lo.toNat).flatMap f):=by
 intro w' _ z
 obtain⟨F,G,H⟩:=d
 have c:((l.take hi.toNat).drop lo.toNat).length=hi.toNat-lo.toNat:=by rw[kW,kL];omega
 have h:(((l.take hi.toNat).drop lo.toNat).flatMap f).length=((l.take hi.toNat).drop lo.toNat).length*k:=iP g _
 refine⟨by simp[Builtin.lenOf,c],?_,h,fun v d=> ?_⟩
 .obtain⟨D,E,t⟩:=y
  by_cases h0:hi.toNat-lo.toNat=0
  .have q:(l.take hi.toNat).drop lo.toNat=[]:=jY (by rw[c,h0])
   rw[q,h0]
   cases qH a cc lo.toNat k with
   |none=>simp[Builtin.firstCells]
   |some p=>exact run_firstCells_some w' k 0 p 0 _ [] (by simp) (fun j v d=>by simp at d)
  cases a with
  |none=>simp only at t;omega
  |some p=>
   simp only at t
   obtain⟨q,A⟩:=t
   obtain⟨b,o,s⟩:=p
   simp only[Addr.mk.injEq,true_and] at q
   obtain⟨rfl,rfl⟩:=q
   have u:St m (.blk b (.cells (bS f l T) n (0,0))::own) w:=st
   rw[qIx (by omega),c]
   refine OF (C:=bS f l T) (e:=n) (by rw[z];exact u.head.1) ?_ (by rw[h,c])
   rw[kO,TU g (by omega),kU (by rw[iP g,kW];exact kY _ (by omega)),OV g,List.drop_take]
 obtain⟨x,_,q⟩:=dF.1 d
 exact r x v q
theorem qKg{t u e by_ k:Nat}{x y:Operand}{f:α->List Value}{c nn cc:Nat}{a:Option Addr}{T:List Value}{l r:List α}{lo hi:Int}(g:∀x,(f x).length=k)(b:∀x,∀v∈f x,v.oneCell'=true)
  (s:cL ops L i=some (some d,.call {callee:= .builtin .append,args:= #[x,y],argTypes:= #[t,u]})) (p:Nat.blt d n=true)
  (D:bL L x=some (.slice none 0 0)) (E:bL L y=some (.slice (qH a cc lo.toNat k) (hi.toNat-lo.toNat) (cc-lo.toNat))) (st:St m (dW a (bS f l T) c::own) w) (z:OAS a nn cc k T) (q:List.length l=nn) (B:0<=lo/\lo<=hi/\hi<=(nn:Int))
  (hi':sD P t=some (e,k,by_,k)) (A:sJ P u e) (o:appM by_ ((l.take hi.toNat).drop lo.toNat)=some r)
  (h:∀a' cap T' w',OAS a' (List.length r) cap k T'->St m (dW a' (bS f r T') e::dW a (bS f l T) c::own) w'->N ((d,.slice a' (List.length r) cap)::L) w'):dN P n ops Q i N L w:=by
 refine JZ (l:=[]) (a:=none) (T:=[]) (e:=e) g s p D E (st.nilroom 0 0) (OAS.nil k) rfl hi' A (qJn g b st z q B) (r:=r) ?_ h
 unfold appM at o
 unfold cP
 simpa using o
def Lent(c:Codec α)(e:Nat)(m:Mem)(a:Option Addr)(cap:Nat)(l:List α)(p:Piece):Prop:=∃vs T,p=dW a (bS lT vs T) e/\OAS a (List.length l) cap 5 T/\tV c m vs l
theorem Lent.mono{c:Codec α}{e cap:Nat}{m m':Mem}{a:Option Addr}{l:List α}{p:Piece}(h:Lent c e m a cap l p)(b:m.le m'):Lent c e m' a cap l p:=by
 obtain⟨vs,T,d,f,g⟩:=h
 exact⟨vs,T,d,f,g.mono b⟩
theorem Lent.freeze{c:Codec α}{e cap:Nat}{a:Option Addr}{l:List α}{p:Piece}(n:c.sz=5)(h:Lent c e m a cap l p)(st:St m (p::own) w):∃m',m.le m'/\St m' own w/\RepS c m' a cap l:=by
 obtain⟨vs,T,rfl,k,b⟩:=h
 obtain⟨m',d,f,g⟩:=St.freezeG (row:=lT) (fun _=>rfl) n st k b.1 b
 exact⟨m',d,f.tail,g⟩
variable {β:Type}
def PRow(c:Codec α)(cb:Codec β)(s:α->List β->α)(eb e3 k3:Nat)(m:Mem)(x:α)(v:V4)(b q:Piece):Prop:=
 ∃ab cb' l ap np cp,v.2.2.2= .slice ab (List.length l) cb'/\Lent cb eb m ab cb' l b/\s x l=x/\v.2.2.1= .slice ap np cp/\q= .room ap np cp e3 k3/\∀m' a' cap' l',m.le m'->RepS cb m' a' cap' l'->c.rep m' (s x l') [v.1,v.2.1,v.2.2.1,.slice a' (List.length l') cap']
theorem PRow.mono{c:Codec α}{cb:Codec β}{s:α->List β->α}{eb e3 k3:Nat}{m m':Mem}{x:α}{v:V4}{b q:Piece}(h:PRow c cb s eb e3 k3 m x v b q)(a:m.le m'):PRow c cb s eb e3 k3 m' x v b q:=by
 obtain⟨ab,cb',l,ap,np,cp,d,e,f,o,p,g⟩:=h
 exact⟨ab,cb',l,ap,np,cp,d,e.mono a,f,o,p,fun m'' a' cap' l' k n=>g m'' a' cap' l' (Mem.le_trans a k) n⟩
theorem PRow.freeze{c:Codec α}{cb:Codec β}{s:α->List β->α}{eb e3 k3:Nat}{x:α}{v:V4}{b q:Piece}(o:cb.sz=5)(h:PRow c cb s eb e3 k3 m x v b q)(st:St m (b::q::own) w):∃m',m.le m'/\St m' own w/\c.rep m' x (oK v):=by
 obtain⟨ab,cb',l,ap,np,cp,f,g,k,p,r,n⟩:=h
 obtain⟨m',a,d,e⟩:=g.freeze o st
 have:=n m' ab cb' l a e
 rw[k,<-f] at this
 exact⟨m',a,d.tail,this⟩
inductive PRows(c:Codec α)(cb:Codec β)(s:α->List β->α)(eb e3 k3:Nat)(m:Mem):List V4->List α->List Piece->Prop
 |nil:PRows c cb s eb e3 k3 m [] [] []
 |cons {v x b q vs l B}:PRow c cb s eb e3 k3 m x v b q->PRows c cb s eb e3 k3 m vs l B->PRows c cb s eb e3 k3 m (v::vs) (x::l) (b::q::B)
theorem PRows.mono{c:Codec α}{cb:Codec β}{s:α->List β->α}{eb e3 k3:Nat}{m m':Mem}{vs:List V4}{l:List α}{B:List Piece}(h:PRows c cb s eb e3 k3 m vs l B)(a:m.le m'):PRows c cb s eb e3 k3 m' vs l B:=by
 induction h with
 |nil=>exact .nil
 |cons b _ d=>exact .cons (b.mono a) d
theorem PRows.len{c:Codec α}{cb:Codec β}{s:α->List β->α}{eb e3 k3:Nat}{m:Mem}{vs:List V4}{l:List α}{B:List Piece}(h:PRows c cb s eb e3 k3 m vs l B):vs.length=l.length:=by
 induction h with
 |nil=>rfl
 |cons _ _ a=>simp[a]
theorem PRows.snoc{c:Codec α}{cb:Codec β}{s:α->List β->α}{eb e3 k3:Nat}{m:Mem}{vs:List V4}{l:List α}{B:List Piece}{x:α}{v:V4}{b q:Piece}(h:PRows c cb s eb e3 k3 m vs l B)(a:PRow c cb s eb e3 k3 m x v b q):PRows c cb s eb e3 k3 m (vs++[v]) (l++[x]) (B++[b,q]):=by
 induction h with
 |nil=>exact .cons a .nil
 |cons d _ e=>exact .cons d e
theorem HD{b q:Piece}{B:List Piece}:(b::q::(B++own)).Perm (B++(b::q::own)):=by
 simpa using(List.perm_append_comm (l₁:=[b,q]) (l₂:=B)).append_right own
theorem PRows.freeze{c:Codec α}{cb:Codec β}{s:α->List β->α}{eb e3 k3:Nat}(o:cb.sz=5){vs:List V4}{l:List α}{B:List Piece}{m:Mem}(h:PRows c cb s eb e3 k3 m vs l B)(st:St m (B++own) w):∃m',m.le m'/\St m' own w/\qPl c m' vs l:=by
 induction h generalizing own with
 |nil=>exact⟨m,m.le_refl,st,rfl,fun i x v h _=>by simp at h⟩
 |@cons v x b q vs l B n _ p=>
  obtain⟨z,e,k,f⟩:=p (own:=b::q::own) (st.perm HD)
  obtain⟨t,g,r,k3⟩:=(n.mono e).freeze o k
  refine⟨t,Mem.le_trans e g,r,by simp[f.1],fun i y u a d=> ?_⟩
  cases i with
  |zero=>simp at a d;subst a;subst d;exact k3
  |succ i=>exact(f.mono g).2 i y u (by simpa using a) (by simpa using d)
def Keep(c:Codec α)(cb:Codec β)(s:α->List β->α)(eb e3 k3:Nat)(m:Mem)(j:Nat)(vs:List V4)(l:List α)(B0:List Piece):Prop:=
 vs.length=l.length/\∃B1 B2,B0=B1++B2/\∀m' x v b q,m.le m'->PRow c cb s eb e3 k3 m' x v b q->PRows c cb s eb e3 k3 m' (vs.set j v) (l.set j x) (B1++b::q::B2)
theorem Keep.mono{c:Codec α}{cb:Codec β}{s:α->List β->α}{eb e3 k3:Nat}{m m':Mem}{j:Nat}{vs:List V4}{l:List α}{B0:List Piece}(h:Keep c cb s eb e3 k3 m j vs l B0)(a:m.le m'):Keep c cb s eb e3 k3 m' j vs l B0:=by
 obtain⟨d,B1,B2,e,f⟩:=h
 exact⟨d,B1,B2,e,fun m'' x v b q g k=>f m'' x v b q (Mem.le_trans a g) k⟩
theorem PRows.split{c:Codec α}{cb:Codec β}{s:α->List β->α}{eb e3 k3:Nat}{vs:List V4}{l:List α}{B:List Piece}{m:Mem}(h:PRows c cb s eb e3 k3 m vs l B){j:Nat}{x:α}(d:l[j]? =some x):
  ∃v b q B1 B2,B=B1++b::q::B2/\vs[j]? =some v/\PRow c cb s eb e3 k3 m x v b q/\Keep c cb s eb e3 k3 m j vs l (B1++B2):=by
 induction h generalizing j with
 |nil=>simp at d
 |@cons v y b q vs l B f g z=>
  have k:=g.len
  cases j with
  |zero=>
   simp at d;subst d
   exact⟨v,b,q,[],B,rfl,rfl,f,by simp[k],[],B,rfl,fun m' x v b q a e=> .cons e (g.mono a)⟩
  |succ j=>
   obtain⟨D,n,A,B1,B2,o,p,r,E,C1,C2,t,u⟩:=z (by simpa using d)
   refine⟨D,n,A,b::q::B1,B2,by rw[o];rfl,by simpa using p,r,by simp[k],b::q::C1,C2,by rw[jO,jO,t];rfl,fun m' x v b' q' a e=> ?_⟩
   exact .cons (f.mono a) (u m' x v b' q' a e)
theorem CZ{γ:Type}{vs:List γ}{ix:Int}{u:γ}(d:idx vs ix=some u):vs.set ix.toNat u=vs:=by
 obtain⟨_,a,_⟩:=zU d
 obtain⟨c,b⟩:=List.getElem?_eq_some_iff.1 a
 rw[<-b]
 exact List.set_getElem_self c
theorem qPo{e f g a b d:Value}{ap aq:Option Addr}{np nq cp cq:Nat}(h:[e,f,.slice ap np cp,g]=[a,b,.slice aq nq cq,d]):e=a/\f=b/\ap=aq/\np=nq/\cp=cq:=by
 simp only[kV] at h
 have c:=Value.slice.inj h.2.2.1
 exact⟨h.1,h.2.1,c.1,c.2.1,c.2.2⟩
def Pend(c:Codec α)(cb:Codec β)(s:α->List β->α)(e eb e3 k3:Nat)(m:Mem)(a:Option Addr)(cap:Nat)(l:List α)(p:Piece)(B:List Piece):Prop:=∃vs T,p=dW a (bS oK vs T) e/\OAS a (List.length l) cap 4 T/\PRows c cb s eb e3 k3 m vs l B
theorem Pend.nil{c:Codec α}{cb:Codec β}{s:α->List β->α}{e eb e3 k3:Nat}:Pend c cb s e eb e3 k3 m none 0 [] (.room none 0 0 0 0) []:=⟨[],[],rfl,OAS.nil 4,.nil⟩
theorem Pend.mono{c:Codec α}{cb:Codec β}{s:α->List β->α}{e eb e3 k3 cap:Nat}{m m':Mem}{a:Option Addr}{l:List α}{p:Piece}{B:List Piece}(h:Pend c cb s e eb e3 k3 m a cap l p B)(b:m.le m'):Pend c cb s e eb e3 k3 m' a cap l p B:=by
 obtain⟨vs,T,d,f,g⟩:=h
 exact⟨vs,T,d,f,g.mono b⟩
theorem qMu{a:Piece}{R B:List Piece}:(a::(R++(B++own))).Perm (B++(a::(R++own))):=by
 have b:(R++(B++own)).Perm (B++(R++own)):=by rw[<-jE,<-jE];exact List.perm_append_comm.append_right own
 exact(b.cons a).trans (fC (a:=a) (l₁:=B) (l₂:=R++own)).symm
theorem Pend.freeze{c:Codec α}{cb:Codec β}{s:α->List β->α}{e eb e3 k3 cap:Nat}{a:Option Addr}{l:List α}{p:Piece}{R B:List Piece}(o:c.sz=4)(n:cb.sz=5)(h:Pend c cb s e eb e3 k3 m a cap l p B)(st:St m (p::(R++(B++own))) w):
  ∃m',m.le m'/\St m' (.room a (List.length l) cap e c.sz::(R++own)) w/\RepS c m' a cap l:=by
 obtain⟨vs,T,rfl,g,k⟩:=h
 obtain⟨u,d,f,b⟩:=k.freeze n (st.perm qMu)
 obtain⟨t,q,r,k3⟩:=St.freezeG (row:=oK) (fun _=>rfl) o f g b.1 b
 exact⟨t,Mem.le_trans d q,r,k3⟩
theorem perm_in{b q:Piece}{R B1 B2:List Piece}:(b::q::(R++((B1++B2)++own))).Perm (R++((B1++b::q::B2)++own)):=by
 refine(HD (b:=b) (q:=q) (B:=R) (own:=(B1++B2)++own)).trans (List.Perm.append_left R ?_)
 rw[jE,jE]
 exact HD (b:=b) (q:=q) (B:=B1) (own:=B2++own)
theorem Pend.open{c:Codec α}{cb:Codec β}{s:α->List β->α}{e eb e3 k3 cap:Nat}{a:Option Addr}{l:List α}{p:Piece}{R B:List Piece}{ix:Int}{z:α}(h:Pend c cb s e eb e3 k3 m a cap l p B)(st:St m (p::(R++(B++own))) w)(A:idx l ix=some z):
  ∃vs T d f ap np cp ab cb' lb us U B0 cs,St m (dW a (bS oK vs T) e::dW ab (bS lT us U) eb:: .room ap np cp e3 k3::(R++(B0++own))) w/\OAS a (List.length l) cap 4 T/\Keep c cb s eb e3 k3 m ix.toNat vs l B0/\idx vs ix=some (d,f,.slice ap np cp,.slice ab (List.length lb) cb')/\OAS ab (List.length lb) cb' 5 U/\tV cb m us lb/\s z lb=z/\[d,f,.slice ap np cp,.slice none 0 0]=cs/\c.rep m (s z []) cs:=by
 obtain⟨vs,T,rfl,x,y⟩:=h
 obtain⟨u,v,E⟩:=zU A
 obtain⟨⟨d,f,F,G⟩,b,q,B1,B2,rfl,o,⟨ab,cb',lb,ap,np,cp,g,⟨us,U,rfl,D,k3⟩,r,n,rfl,k⟩,t⟩:=y.split v
 simp only at g k n
 subst g;subst n
 refine⟨vs,T,d,f,ap,np,cp,ab,cb',lb,us,U,B1++B2,_,st.perm (List.Perm.cons _ perm_in.symm),x,t,?_,D,k3,r,rfl,k m none 0 [] m.le_refl (RepS.nil cb m)⟩
 unfold idx
 rw[if_pos u]
 exact o
theorem Pend.shut{c:Codec α}{cb:Codec β}{s:α->List β->α}{e eb e3 k3 cap:Nat}{a:Option Addr}{l:List α}{R B0:List Piece}{ix:Int}{vs vs':List V4}{T:List Value}{x:α}{v:V4}{b q:Piece}(f:Keep c cb s eb e3 k3 m ix.toNat vs l B0)
  (st:St m (dW a (bS oK vs' T) e::b::q::(R++(B0++own))) w) (h:OAS a (List.length l) cap 4 T) (k:vs.set ix.toNat v=vs') (g:PRow c cb s eb e3 k3 m x v b q):∃p B,St m (p::(R++(B++own))) w/\Pend c cb s e eb e3 k3 m a cap (List.set l ix.toNat x) p B:=by
 obtain⟨_,B1,B2,rfl,d⟩:=f
 subst k
 exact⟨_,B1++b::q::B2,st.perm (List.Perm.cons _ perm_in),_,T,rfl,by rw[gE];exact h,d m x v b q m.le_refl g⟩
theorem GS{γ:Type}{a:Option Addr}{k cp:Nat}{l:List γ}(h:List.length l=k):Value.slice a k cp= .slice a (List.length l) cp:=by rw[h]
theorem Pend.shut4{c:Codec α}{cb:Codec β}{s:α->List β->α}{e eb e3 k3 cap:Nat}{a:Option Addr}{l:List α}{R1 R2 R3 R4:Piece}{B0:List Piece}{ix:Int}{vs vs':List V4}{T:List Value}{x:α}{v:V4}{b q:Piece}(d:Keep c cb s eb e3 k3 m ix.toNat vs l B0)
  (st:St m (dW a (bS oK vs' T) e::b::q::R1::R2::R3::R4::(B0++own)) w) (g:OAS a (List.length l) cap 4 T) (h:vs.set ix.toNat v=vs') (f:PRow c cb s eb e3 k3 m x v b q):∃p B,St m (p::R1::R2::R3::R4::(B++own)) w/\Pend c cb s e eb e3 k3 m a cap (List.set l ix.toNat x) p B:=
 Pend.shut (R:=[R1,R2,R3,R4]) d st g h f
theorem qMd{f:α->List Value}{k d nn cc:Nat}{a:Option Addr}{T:List Value}{l:List α}(q:∀x,(f x).length=k)(g:∀x∈l,∀v∈f x,v.oneCell'=true)
  (st:St m (dW a (bS f l T) d::own) w) (y:OAS a nn cc k T) (u:List.length l=nn):∀w':World,Step w w'->w'.heap=w.heap->xH P w' k (.slice a nn cc) l.length (l.flatMap f):=by
 intro w' _ z
 have c:(l.flatMap f).length=l.length*k:=iP q _
 refine⟨by simp only[Builtin.lenOf,u];rfl,?_,c,fun v h=> ?_⟩
 .obtain⟨B,D,n⟩:=y
  cases a with
  |none=>
   simp only at n
   have r:l=[]:=jY (by omega)
   subst r
   simp[Builtin.firstCells]
  |some p=>
   simp only at n
   obtain⟨r,A⟩:=n
   obtain⟨b,o,s⟩:=p
   simp only[Addr.mk.injEq,true_and] at r
   obtain⟨rfl,rfl⟩:=r
   have t:St m (.blk b (.cells (bS f l T) d (0,0))::own) w:=st
   refine OF (o:=0) (C:=bS f l T) (e:=d) (by rw[z];exact t.head.1) ?_ c
   rw[jZ]
   have:=NN (T:=T) q (jT l.length)
   rwa[gT] at this
 obtain⟨x,n,h⟩:=dF.1 h
 exact g x n v h
theorem qFg{t u e Y eb e3 k3 by_:Nat}{x y:Operand}{c:Codec α}{cb:Codec β}{s:α->List β->α}{a A:Option Addr}{cap F:Nat}{T1:List Value}{v:V4}{l r:List α}{x0:α}{p b q:Piece}{R B:List Piece}
  (ho:cL ops L i=some (some d,.call {callee:= .builtin .append,args:= #[x,y],argTypes:= #[t,u]})) (hd:Nat.blt d n=true)
  (hx:bL L x=some (.slice a (List.length l) cap)) (hy:bL L y=some (.slice A 1 F)) (st:St m (dW A (bS oK [v] T1) Y::b::q::p::(R++(B++own))) w) (S:OAS A 1 F 4 T1) (hp:Pend c cb s e eb e3 k3 m a cap l p B) (D:(oK v).all Value.oneCell'=true) (M:PRow c cb s eb e3 k3 m x0 v b q)
  (hi:sD P t=some (e,4,by_,4)) (hu:sJ P u e) (o:cP by_ l [x0]=some r)
  (h:∀a' cap' p' w',Pend c cb s e eb e3 k3 m a' cap' r p' (B++[b,q])->St m (p'::(R++((B++[b,q])++own))) w'->N ((d,.slice a' (List.length r) cap')::L) w'):dN P n ops Q i N L w:=by
 obtain⟨vs,T,rfl,Z,G⟩:=hp
 have E:=qMd (P:=P) (f:=oK) (l:=[v]) (k:=4) (fun _=>rfl) (by intro z o;cases kI.1 o;exact kE.1 D) st S rfl
 have g:=G.len
 have hz':r=l++[x0]/\cP by_ vs [v]=some (vs++[v]):=by
  unfold cP at o ⊢
  split at o
  .rename_i hk
   simp only[jL] at o
   refine⟨o.symm,if_pos ?_⟩
   rw[g];exact hk
  cases o
 obtain⟨rfl,V⟩:=hz'
 have K:(vs++[v]).length=(l++[x0]).length:=by simp[g]
 refine JZ (f:=oK) (fun _=>rfl) ho hd hx hy (st.front3) Z g hi hu E V fun a' cap' T' w' H U=> ?_
 rw[K] at H ⊢
 refine h a' cap' _ w' ⟨_,T',rfl,H,G.snoc M⟩ ?_
 have s1:=U.front1.tail
 refine s1.perm (List.Perm.cons _ ?_)
 have h5:(b::q::(R++(B++own))).Perm (R++(b::q::(B++own))):=HD
 refine h5.trans (List.Perm.append_left R ?_)
 have h6:B++[b,q]++own=B++(b::q::own):=by simp
 rw[h6]
 exact HD
theorem Pend.idx{c:Codec α}{cb:Codec β}{s:α->List β->α}{e eb e3 k3 cap:Nat}{a:Option Addr}{l:List α}{p:Piece}{B:List Piece}{ix:Int}{z:α}(h:Pend c cb s e eb e3 k3 m a cap l p B)(n:Dc.idx l ix=some z):
  ∃(vs:List V4) (T:List Value) (v:V4),OAS a (List.length l) cap 4 T/\List.length vs=List.length l/\Dc.idx vs ix=some v:=by
 obtain⟨vs,T,_,g,k⟩:=h
 obtain⟨d,f,o⟩:=zU n
 have b:=k.len
 have hlt':ix.toNat<vs.length:=by rw[b];exact(List.getElem?_eq_some_iff.1 f).1
 refine⟨vs,T,vs[ix.toNat],g,b,?_⟩
 unfold Dc.idx
 rw[if_pos d]
 exact List.getElem?_eq_getElem hlt'
end
theorem St.len3{m:Mem}{w:World}{P q:Piece}{R:List Piece}{b e n n' c:Nat}{z:Nat×Nat}{a:Option Addr}{x y:Value}(h:n'=n)(st:St m (P::q:: .blk b (.cells #[x,y,.slice a n c] e z)::R) w):St m (P::q:: .blk b (.cells #[x,y,.slice a n' c] e z)::R) w:=by subst h;exact st
theorem Mem.le.t{a b c:Mem}(h:a.le b)(k:b.le c):a.le c:=Mem.le_trans h k
theorem sI{α:Type}{a b:α}(h:some a=some b):a=b:=jG h
abbrev GoOn(K:Value->Prop):Ending->Prop
 | .returned v=>K v
 |_=>False
abbrev GoOnF(K:Value->Prop)(F:List PanicEntry->Prop):Ending->Prop
 | .returned v=>K v
 | .panicked ch=>F ch
 |_=>False
theorem GoOn.out{K:Value->Prop}{e:Ending}(h:GoOn K e):∃v,e= .returned v/\K v:=by
 cases e<;>first|exact⟨_,rfl,h⟩|exact h.elim
theorem GoOnF.out{K:Value->Prop}{F:List PanicEntry->Prop}{e:Ending}(h:GoOnF K F e):(∃v,e= .returned v/\K v)\/∃ch,e= .panicked ch/\F ch:=by
 cases e<;>first|exact .inl ⟨_,rfl,h⟩|exact .inr ⟨_,rfl,h⟩|exact h.elim
section
variable {ρ:Option Nat} {P:Program} {n:Fr} {ops:Array Oper} {Q:Exit->Act->World->Prop} {i:Nat} {L:bJ} {w:World} {m:Mem} {own:List Piece} {N:bJ->World->Prop}
theorem qKx{α β:Type}{f:Nat}{args:Array Value}{x:Option β}{k:β->Option α}{r:α}{T:β->Ending->World->Prop}(d:Nat)(o:x.bind k=some r)(c:∀y,x=some y->Calls P f args w (T y))
  (h:∀y,k y=some r->∀e w',T y e w'->GoOn (fun v=>N ((d,v)::L) w') e) (l:sX P ops L i=some (some d,f,args):=by kernel_rfl) (g:Nat.blt d n=true:=by exact rfl):dN P n ops Q i N L w:=by
 obtain⟨y,a,b⟩:=jP.1 o
 exact eJ d f args l g ((c y a).mono fun e w' p=>(h y b e w' p).out)
theorem iC{α β:Type}{f:Nat}{args:Array Value}{x:Option β}{k:β->Option α}{r:α}{T:β->Ending->World->Prop}(d:Nat)(o:x.bind k=some r)(c:∀y,x=some y->Calls P f args w (T y))
  (h:∀y,k y=some r->∀e w',T y e w'->∃v,e= .returned v/\N ((d,v)::L) w') (l:sX P ops L i=some (some d,f,args):=by kernel_rfl) (g:Nat.blt d n=true:=by exact rfl):dN P n ops Q i N L w:=by
 obtain⟨y,a,b⟩:=jP.1 o
 exact eJ d f args l g ((c y a).mono fun e w' p=>h y b e w' p)
theorem qNe{α β:Type}{f:Nat}{args:Array Value}{x:Option β}{k:β->Option α}{r:α}{T:β->Ending->World->Prop}(d:Nat)(g:x.bind k=some r)(a:∀y,x=some y->Calls P f args w (T y))
  (h:∀y,k y=some r->∀e w',T y e w'->GoOn (fun v=>WO P n ops Q (i+1) ((d,v)::L) w') e) (c:sX P ops L i=some (some d,f,args):=by kernel_rfl) (b:Nat.blt d n=true:=by exact rfl) (hi:Nat.blt i ops.size=true:=by exact rfl):WO P n ops Q i L w:=
 bB hi (qKx d g a h c b)
theorem qJt{α β:Type}{f:Nat}{args:Array Value}{x:Option β}{k:β->Option α}{r:α}{T:β->Ending->World->Prop}(d:Nat)(o:x.bind k=some r)(c:∀y,x=some y->Calls P f args w (T y))
  (h:∀y,k y=some r->∀e w',T y e w'->GoOnF (fun v=>N ((d,v)::L) w') (fun ch=>X n Q (.panic ch) L w') e) (l:sX P ops L i=some (some d,f,args):=by kernel_rfl) (g:Nat.blt d n=true:=by exact rfl):dN P n ops Q i N L w:=by
 obtain⟨y,a,b⟩:=jP.1 o
 exact DD d f args l g ((c y a).mono fun e w' p=>(h y b e w' p).out)
theorem qMe{α β:Type}{f:Nat}{args:Array Value}{x:Option β}{k:β->Option α}{r:α}{T:β->Ending->World->Prop}(d:Nat)(g:x.bind k=some r)(a:∀y,x=some y->Calls P f args w (T y))
  (h:∀y,k y=some r->∀e w',T y e w'->GoOnF (fun v=>WO P n ops Q (i+1) ((d,v)::L) w') (fun ch=>X n Q (.panic ch) L w') e) (c:sX P ops L i=some (some d,f,args):=by kernel_rfl) (b:Nat.blt d n=true:=by exact rfl) (hi:Nat.blt i ops.size=true:=by exact rfl):WO P n ops Q i L w:=
 bB hi (qJt d g a h c b)
def DL:List Value->Nat->bJ
 |[],_=>[]
 |v::l,k=>(k,v)::DL l (k+1)
theorem WN:∀(l:List Value) (k:Nat) (pre:List Value),pre.length=k->(DL l k).map (fun p=>((pre++l).toArray[p.1]?))=(DL l k).map fun p=>some p.2
 |[],_,_,_=>rfl
 |v::l,k,pre,h=>by
  simp only[DL,kG]
  have a:=WN l (k+1) (pre++[v]) (by simp[h])
  rw[show pre++[v]++l=pre++v::l by simp] at a
  rw[a]
  congr 1
  subst h
  simp
theorem bI{f:FuncId}{fn:Func}{c:Code}{args:Array Value}{R:Ending->World->Prop}{k:Nat}(d:P.funcs[f]? =some fn)(b:fn.body=some c)(e:fn.ntmps=k)(h:W none P ⟨k,[]⟩ c (bodyPost P fn R) (DL args.toList 0) w)
  (a:Nat.ble args.size k=true:=by exact rfl):Calls P f args w R:=
 QI d b e (DL args.toList 0) (by have:=WN args.toList 0 [] rfl;simpa using this) a h
theorem aF{α:Type}{c:Operand}{x y:Code}{b:Bool}{A B:Option α}{r:α}(a:(if b=true then A else B)=some r)
  (f:b=true->A=some r->W ρ P n x Q L w) (e:b=false->B=some r->W ρ P n y Q L w) (d:bL L c=some (.bool b):=by kernel_rfl):W ρ P n (.cond c x y) Q L w:=
 sW b d (fun h=>f h (by rw[if_pos h] at a;exact a)) (fun h=>e h (by rw[if_neg (by rw[h];exact kJ)] at a;exact a))
theorem aQ{y:Code}(h:W ρ P n y Q L w)(hi:ops.size=i:=by exact rfl):WO P n ops (Exit.then (fun a w=>y.wpIn (mW ρ) 0 P Q a w) Q) i L w:=IC hi h
theorem aA(k:Nat)(new:bJ)(h:WO P n ops Q (i+k) (new++L) w)(a:zT P n ops k i L (new.map (·.1))=some (new.map fun p=>some p.2):=by kernel_rfl)
 (b:uW L new (dZ ops k i)=true:=by kernel_rfl):WO P n ops Q i L w:=sV k new a b h
theorem bH{e:TypeId}{b:Nat}{c:Array Value}{f:Nat×Nat}(k d t x o:Nat)(v:Value)(q:Piece.holds m w (.blk b (.cells c e f)))(h:WO P n ops Q (i+k+1) ((d,v)::(x,.pointer (some ⟨b,o,none⟩))::L) w)
  (a:zT P n ops k i L [x]=some [some (.pointer (some ⟨b,o,none⟩))]:=by kernel_rfl) (g:uW L [(x,.pointer (some ⟨b,o,none⟩))] (dZ ops k i)=true:=by kernel_rfl)
  (p:cL ops ((x,.pointer (some ⟨b,o,none⟩))::L) (i+k)=some (some d,.load t (.tmp x)):=by kernel_rfl) (l:Nat.blt d n=true:=by exact rfl) (r:oH P t (c.toList.drop o)=some v:=by kernel_rfl) (hi:Nat.blt (i+k) ops.size=true:=by exact rfl):WO P n ops Q i L w:=
 sV k [(x,.pointer (some ⟨b,o,none⟩))] a g (bB hi (CJ v p l (by simp[bL,look]) q r h))
theorem aG{y:Code}(k:Nat)(new:bJ)(h:W ρ P n y Q (new++L) w)(b:zT P n ops k i L (new.map (·.1))=some (new.map fun p=>some p.2):=by kernel_rfl)
 (c:uW L new (dZ ops k i)=true:=by kernel_rfl) (hi:ops.size=i+k:=by exact rfl):WO P n ops (Exit.then (fun a w=>y.wpIn (mW ρ) 0 P Q a w) Q) i L w:=sV k new b c (IC hi h)
theorem dY{b:Nat}{cs:List Value}(d t x o:Nat)(v:Value)(a:St m own w)(f:MRow m b o cs)(h:WO P n ops Q (i+1) ((d,v)::L) w)
 (e:cL ops L i=some (some d,.load t (.tmp x)):=by kernel_rfl) (c:Nat.blt d n=true:=by exact rfl) (k:bL L (.tmp x)=some (.pointer (some ⟨b,o,none⟩)):=by kernel_rfl) (g:oH P t cs=some v:=by kernel_rfl)
 (hi:Nat.blt i ops.size=true:=by exact rfl):WO P n ops Q i L w:=bB hi (wM v e c k a f g h)
theorem aR{k:Nat}{fn:Func}{R:Ending->World->Prop}(ts:List Nat)(vs:List Value)(h:R (.returned (uZ vs)) w)(b:fn.results=(ts.map ResultVar.tmp).toArray:=by exact rfl)(a:ts.map (look L)=vs.map some:=by kernel_rfl):X ⟨k,[]⟩ (bodyPost P fn R) .ret L w:=by
 refine AA (ts.map .tmp) vs b ?_ h
 clear b h
 induction ts generalizing vs with
 |nil=>cases vs with
  |nil=>rfl
  |cons v vs=>cases a
 |cons t ts c=>cases vs with
  |nil=>cases a
  |cons v vs=>
   rw[kG,kG,kV] at a
   exact ResAll.cons (ResAt.tmp a.1) (c vs a.2)
instance opTmp(k:Nat):OfNat Operand k:=⟨.tmp k⟩
theorem qNf{e:TypeId}{b:Nat}{c:Array Value}{f:Nat×Nat}(d t:Nat)(x:Operand)(o:Nat)(v:Value)(k:Piece.holds m w (.blk b (.cells c e f)))(h:N ((d,v)::L) w)
 (g:cL ops L i=some (some d,.load t x):=by kernel_rfl) (a:Nat.blt d n=true:=by exact rfl) (p:bL L x=some (.pointer (some ⟨b,o,none⟩)):=by kernel_rfl) (l:oH P t (c.toList.drop o)=some v:=by kernel_rfl):dN P n ops Q i N L w:=CJ v g a p k l h
theorem zW{e:TypeId}{b:Nat}{c:Array Value}(t:Nat)(x y:Operand)(o:Nat)(v:Value)(c':Array Value)(d:St m (.blk b (.cells c e (0,0))::own) w)(h:∀w',St m (.blk b (.cells c' e (0,0))::own) w'->N L w')
 (f:cL ops L i=some (none,.store t x y):=by kernel_rfl) (g:bL L x=some (.pointer (some ⟨b,o,none⟩)):=by kernel_rfl) (k:bL L y=some v:=by kernel_rfl) (a:wT P t v o c.size=true:=by kernel_rfl)
 (hc':(c.toList.take o++v.cells.toList++c.toList.drop (o+v.cells.toList.length)).toArray=c':=by kernel_rfl):dN P n ops Q i N L w:=KM f g k d a hc' h
theorem vG{e:TypeId}{b:Nat}{c:Array Value}(t:Nat)(x y:Operand)(v:Value)(d:St m (.blk b (.cells c e (0,0))::own) w)(h:∀w',St m (.blk b (.cells v.cells e (0,0))::own) w'->N L w')
 (f:cL ops L i=some (none,.store t x y):=by kernel_rfl) (g:bL L x=some (.pointer (some ⟨b,0,none⟩)):=by kernel_rfl) (k:bL L y=some v:=by kernel_rfl) (a:wT P t v 0 c.size=true:=by kernel_rfl)
 (hc':(c.toList.take 0++v.cells.toList++c.toList.drop (0+v.cells.toList.length)).toArray=v.cells:=by kernel_rfl):dN P n ops Q i N L w:=KM f g k d a hc' h
theorem LR(d e:Nat)(x:Operand)(v:Value)(a:St m own w)(h:∀b w',St m (.blk b (.cells v.cells e (0,0))::own) w'->N ((d,.pointer (some ⟨b,0,none⟩))::L) w')
 (f:cL ops L i=some (some d,.box e x):=by kernel_rfl) (c:Nat.blt d n=true:=by exact rfl) (g:bL L x=some v:=by kernel_rfl):dN P n ops Q i N L w:=UI v f c g a h
theorem xE{e:Exit}{L':bJ}(h:X n Q e L' w)(a:L'.map (fun p=>look L p.1)=L'.map fun p=>some p.2:=by kernel_rfl):X n Q e L w:=qZ L' a h
theorem iA{m':Mem}{p:Prop}(st:St m' own w)(h:m.le m'):p\/Inv m w/\True:= .inr ⟨Inv.anti st.inv h,trivial⟩
theorem uY{α β:Type}{c:Codec α}{a:Option Addr}{cap:Nat}{l k:List α}{v:Value}{f:List α->Option β}{r:β}(d t u e by_:Nat)(x y:Operand)(g:St m (.room a l.length cap e c.sz::own) w)(D:sJ P u e)(b:RepS c m a cap l)(s:Gives P c m v k)(B:(cP by_ l k).bind f=some r)
  (h:∀z,f z=some r->∀a' cap' m' w',m.le m'->St m' (.room a' (List.length z) cap' e c.sz::own) w'->RepS c m' a' cap' z->N ((d,.slice a' (List.length z) cap')::L) w')
  (A:cL ops L i=some (some d,.call {callee:= .builtin .append,args:= #[x,y],argTypes:= #[t,u]}):=by kernel_rfl) (q:Nat.blt d n=true:=by exact rfl) (E:bL L x=some (.slice a l.length cap):=by kernel_rfl) (F:bL L y=some v:=by kernel_rfl)
  (hi:sD P t=some (e,c.sz,by_,c.sz):=by kernel_rfl):dN P n ops Q i N L w:=by
 obtain⟨z,o,p⟩:=aW B;exact qGc c A q E F g hi D b s o (h z p)
theorem bD{α:Type}{b:Bool}{A B:Option α}{r:α}(t:Nat)(a:(if b=true then A else B)=some r)(e:b=true->A=some r->WO P n ops Q i ((t,.bool true)::L) w)(d:b=false->B=some r->WO P n ops Q i ((t,.bool false)::L) w)
  (c:look L t=some (.bool b):=by kernel_rfl):WO P n ops Q i L w:=by
 cases b with
 |true=>exact YT true c rfl (e rfl (by rw[if_pos rfl] at a;exact a))
 |false=>exact YT false c rfl (d rfl (by rw[if_neg kJ] at a;exact a))
theorem tA{m':Mem}{p x:Prop}(st:St m' own w)(h:m.le m')(k:x):((p\/Inv m w/\True)/\True)/\x:=⟨⟨iA st h,trivial⟩,k⟩
class QC(Q:Exit->Act->World->Prop):Prop where
 out:QP Q
instance qc1{K:Act->World->Prop}[h:QC Q]:QC (Exit.then K Q):=⟨bM h.out⟩
instance qc2{id:Nat}[h:QC Q]:QC (Exit.inBlock id Q):=⟨cX h.out⟩
instance qc3{fn:Func}{R:Ending->World->Prop}:QC (bodyPost P fn R):=⟨eQ⟩
instance qc4[h:QC Q]:QC (LS Q):=⟨h.out⟩
instance qc5{fn:Func}{R:Ending->World->Prop}:QC (qPd P fn R):=⟨fun _ _ _ _ _ h=>h⟩
instance qc6{l:Nat}{R:Ending->World->Prop}:QC (roundPost P l R):=⟨fun _ _ _ _ _ h=>h⟩
instance qc7{l:Nat}{body:Code}{R:Ending->World->Prop}:QC (qOk P l body R):=⟨fun _ _ _ _ _ h=>h⟩
instance qc8:QC (noP Q):=⟨fun _ _ _ _ _ h=>h⟩
variable [hq:QC Q] {ks:List (Nat×(World->Prop))} {k fuel:Nat} {S:World->Prop} {done:List Nat}
theorem aO(i d:Nat)(v:Value)(a:(k,S)∈ks)(h:WA P n ops Q ks fuel (done++[i]) ((d,v)::L) w)(c:RJ P ops L i=some (d,v):=by kernel_rfl)(b:Nat.blt d n=true:=by exact rfl)(e:pF ops ks k i done=true:=by kernel_rfl):WA P n ops Q ks (fuel+1) done L w:=
 qMc i d v c b e a hq.out h
theorem nD(i d:Nat)(a:(k,S)∈ks)(h:WA P n ops Q ks fuel (done++[i]) ((d,undef)::L) w)(e:((ops[i]?).bind fun o=>(mO ops L o.guard).map fun b=>(o.dst,b))=some (some d,false):=by kernel_rfl)(c:Nat.blt d n=true:=by exact rfl)
 (f:pF ops ks k i done=true:=by kernel_rfl):WA P n ops Q ks (fuel+1) done L w:=qMz i d e c f a hq.out h
theorem dI{e:Nat}{b:Nat}{c:Array Value}{f:Nat×Nat}(t':Nat)(x:Operand)(i d o:Nat)(v:Value)(a:(k,S)∈ks)(g:∀w,S w->Piece.holds m w (.blk b (.cells c e f)))(h:WA P n ops Q ks fuel (done++[i]) ((d,v)::L) w)
  (p:cL ops L i=some (some d,.load t' x):=by kernel_rfl) (l:Nat.blt d n=true:=by exact rfl) (q:pF ops ks k i done=true:=by kernel_rfl) (s:bL L x=some (.pointer (some ⟨b,o,none⟩)):=by kernel_rfl) (r:oH P t' (c.toList.drop o)=some v:=by kernel_rfl):WA P n ops Q ks (fuel+1) done L w:=
 qFo i d v p l q a hq.out g s r h
theorem eU{b:Nat}{cs:List Value}(t:Nat)(x:Operand)(i d o:Nat)(v:Value)(a:(k,S)∈ks)(c:∀w,S w->Inv m w)(g:MRow m b o cs)(h:WA P n ops Q ks fuel (done++[i]) ((d,v)::L) w)
  (f:cL ops L i=some (some d,.load t x):=by kernel_rfl) (e:Nat.blt d n=true:=by exact rfl) (l:pF ops ks k i done=true:=by kernel_rfl) (q:bL L x=some (.pointer (some ⟨b,o,none⟩)):=by kernel_rfl) (p:oH P t cs=some v:=by kernel_rfl):WA P n ops Q ks (fuel+1) done L w:=
 qFx i d v f e l a hq.out c q g p h
theorem eO{α:Type}{k':BA->Option α}{r:α}{a b:BA}(t t2:Nat)(x y:Operand)(i d:Nat)(c:(k,S)∈ks)(o:(cC a b).bind k'=some r)(h:∀s,k' s=some r->WA P n ops Q ks fuel (done++[i]) ((d,.string s)::L) w)
  (l:cL ops L i=some (some d,.binOp .add t x y t2):=by kernel_rfl) (g:Nat.blt d n=true:=by exact rfl) (p:pF ops ks k i done=true:=by kernel_rfl) (q:bL L x=some (.string a):=by kernel_rfl) (u:bL L y=some (.string b):=by kernel_rfl):WA P n ops Q ks (fuel+1) done L w:=by
 obtain⟨z,e,f⟩:=aW o;exact qNj i d l g p c hq.out q u e (h z f)
end
class Enc{α:Type}(c:Codec α) where
 enc:α->List Value
 ok:∀m x,c.rep m x (enc x)
instance encStr:Enc aH:=⟨fun x=>[.string x],fun _ _=>rfl⟩
instance encInt{k:IntKind}:Enc (aV k):=⟨fun x=>[.int k x],fun _ _=>rfl⟩
instance encBool:Enc qPt:=⟨fun x=>[.bool x],fun _ _=>rfl⟩
instance encPair{α β:Type}{a:Codec α}{b:Codec β}[A:Enc a][B:Enc b]:Enc (sK a b):=⟨fun x=>A.enc x.1++B.enc x.2,fun m x=>⟨_,_,rfl,A.ok m x.1,B.ok m x.2⟩⟩
def RX{α:Type}(c:Codec α)[E:Enc c]:List α->List Value
 |[]=>[]
 |x::l=>E.enc x++RX c l
theorem XJ{α:Type}{c:Codec α}[E:Enc c]{m:Mem}:∀l:List α,RepAll c m l (RX c l)
 |[]=>rfl
 |x::l=>⟨_,_,rfl,E.ok m x,XJ l⟩
section
variable {ρ:Option Nat} {P:Program} {n:Fr} {ops:Array Oper} {Q:Exit->Act->World->Prop} {i:Nat} {L:bJ} {w:World} {m:Mem} {own:List Piece}
def qAz(P:Program)(ops:Array Oper)(L:bJ)(i:Nat):Option (Nat×Nat×TypeId×List Value):=
 match cL ops L i with
 |some (some d,.buildSlice t len parts)=>(OD P t len (parts.map fun p=>(p.1,lU L p.2)).toList).map fun z=>(d,len,z)
 |_=>none
theorem eX{α:Type}(d e len:Nat)(c:Codec α)[E:Enc c](xs:List α)(k:St m own w)
  (h:∀b m' w',m.le m'->St m' (.room (some ⟨b,0,none⟩) xs.length len e c.sz::own) w'->RepS c m' (some ⟨b,0,none⟩) len xs->WO P n ops Q (i+1) ((d,.slice (some ⟨b,0,none⟩) xs.length len)::L) w')
  (a:qAz P ops L i=some (d,len,e,RX c xs):=by kernel_rfl) (l:Nat.blt d n=true:=by exact rfl) (f:len=xs.length:=by exact rfl) (g:Nat.ble len maxLen=true:=by exact rfl) (hi:Nat.blt i ops.size=true:=by exact rfl):WO P n ops Q i L w:=by
 unfold qAz at a
 split at a
 .rename_i ha
  simp only[kT,Prod.mk.injEq] at a
  obtain⟨z,o,rfl,rfl,rfl⟩:=a
  exact bB hi (lK c _ ha l (fun _=>lD o _) f g k (XJ xs) h)
 cases a
def qBh(P:Program)(ops:Array Oper)(L:bJ)(i:Nat)(c:List Value):Option (Nat×Nat×Value):=
 match cL ops L i with
 |some (some d,.load t x)=>match bL L x with
  |some (.pointer (some ⟨b,o,none⟩))=>(oH P t (c.drop o)).map fun v=>(d,b,v)
  |_=>none
 |_=>none
theorem bO{e:TypeId}{b:Nat}{c:Array Value}{f:Nat×Nat}(d:Nat)(v:Value)(k:Piece.holds m w (.blk b (.cells c e f)))(h:WO P n ops Q (i+1) ((d,v)::L) w)
  (a:qBh P ops L i c.toList=some (d,b,v):=by kernel_rfl) (g:Nat.blt d n=true:=by exact rfl) (hi:Nat.blt i ops.size=true:=by exact rfl):WO P n ops Q i L w:=by
 unfold qBh at a
 split at a
 .rename_i ha
  split at a
  .rename_i hb
   simp only[kT,Prod.mk.injEq] at a
   obtain⟨z,l,rfl,rfl,rfl⟩:=a
   exact bB hi (CJ _ ha g hb k l h)
  cases a
 cases a
def qAo(P:Program)(ops:Array Oper)(L:bJ)(i:Nat)(c:List Value):Option (Nat×Nat×Nat×Value):=
 match cL ops L i with
 |some (some d,.load t x)=>match bL L x with
  |some (.pointer (some ⟨b,o,none⟩))=>(oH P t c).map fun v=>(d,b,o,v)
  |_=>none
 |_=>none
theorem bE{b o:Nat}{cs:List Value}(d:Nat)(v:Value)(c:St m own w)(f:MRow m b o cs)(h:WO P n ops Q (i+1) ((d,v)::L) w)
  (a:qAo P ops L i cs=some (d,b,o,v):=by kernel_rfl) (e:Nat.blt d n=true:=by exact rfl) (hi:Nat.blt i ops.size=true:=by exact rfl):WO P n ops Q i L w:=by
 unfold qAo at a
 split at a
 .rename_i ha
  split at a
  .rename_i hb
   simp only[kT,Prod.mk.injEq] at a
   obtain⟨z,g,rfl,rfl,rfl,rfl⟩:=a
   exact bB hi (wM _ ha e hb c f g h)
  cases a
 cases a
def RY(P:Program)(ops:Array Oper)(L:bJ)(i:Nat)(c:Array Value):Option (Nat×Array Value):=
 match cL ops L i with
 |some (none,.store t x y)=>match bL L x with
  |some (.pointer (some ⟨b,o,none⟩))=>match bL L y with
   |some v=>bif wT P t v o c.size then some (b,(c.toList.take o++v.cells.toList++c.toList.drop (o+v.cells.toList.length)).toArray) else none
   |none=>none
  |_=>none
 |_=>none
theorem cU{e:TypeId}{b:Nat}{c:Array Value}(c':Array Value)(d:St m (.blk b (.cells c e (0,0))::own) w)(h:∀w',St m (.blk b (.cells c' e (0,0))::own) w'->WO P n ops Q (i+1) L w')
  (a:RY P ops L i c=some (b,c'):=by kernel_rfl) (hi:Nat.blt i ops.size=true:=by exact rfl):WO P n ops Q i L w:=by
 unfold RY at a
 split at a
 .rename_i ha
  split at a
  .rename_i hb
   split at a
   .rename_i hv
    cases hk:wT P _ _ _ c.size with
    |true=>
     rw[hk,cond_true] at a
     simp only[jL,Prod.mk.injEq] at a
     obtain⟨rfl,f⟩:=a
     exact bB hi (KM ha hb hv d hk f h)
    |false=>rw[hk,cond_false] at a;cases a
   cases a
  cases a
 cases a
theorem cD{e:TypeId}{b:Nat}{c:Array Value}(v:Value)(a:St m (.blk b (.cells c e (0,0))::own) w)(h:∀w',St m (.blk b (.cells v.cells e (0,0))::own) w'->WO P n ops Q (i+1) L w')
 (d:RY P ops L i c=some (b,v.cells):=by kernel_rfl) (hi:Nat.blt i ops.size=true:=by exact rfl):WO P n ops Q i L w:=cU v.cells a h d hi
def qBc(P:Program)(ops:Array Oper)(L:bJ)(i:Nat):Option (Nat×Nat×Value):=
 match cL ops L i with
 |some (some d,.alloc e)=>(qAf P e).map fun v=>(d,e,v)
 |_=>none
theorem cY(d e:Nat)(v:Value)(c:St m own w)(h:∀b w',St m (.blk b (.cells v.cells e (0,0))::own) w'->WO P n ops Q (i+1) ((d,.pointer (some ⟨b,0,none⟩))::L) w')
  (a:qBc P ops L i=some (d,e,v):=by kernel_rfl) (f:Nat.blt d n=true:=by exact rfl) (hi:Nat.blt i ops.size=true:=by exact rfl):WO P n ops Q i L w:=by
 unfold qBc at a
 split at a
 .rename_i ha
  simp only[kT,Prod.mk.injEq] at a
  obtain⟨z,g,rfl,rfl,rfl⟩:=a
  exact bB hi (qHp _ ha f g c h)
 cases a
def qBi(ops:Array Oper)(L:bJ)(i:Nat):Option (Nat×Nat×Value):=
 match cL ops L i with
 |some (some d,.box e x)=>(bL L x).map fun v=>(d,e,v)
 |_=>none
theorem iF(d e:Nat)(v:Value)(c:St m own w)(h:∀b m' w',m.le m'->St m' own w'->MRow m' b 0 v.cells.toList->WO P n ops Q (i+1) ((d,.pointer (some ⟨b,0,none⟩))::L) w')
  (a:qBi ops L i=some (d,e,v):=by kernel_rfl) (f:Nat.blt d n=true:=by exact rfl) (hi:Nat.blt i ops.size=true:=by exact rfl):WO P n ops Q i L w:=by
 unfold qBi at a
 split at a
 .rename_i ha
  simp only[kT,Prod.mk.injEq] at a
  obtain⟨z,g,rfl,rfl,rfl⟩:=a
  exact bB hi (qLl _ ha f g c h)
 cases a
def qBj(P:Program)(ops:Array Oper)(L:bJ)(i:Nat):Option (Nat×BA×Int):=
 match cL ops L i with
 |some (some d,.index t x y)=>match bL L x with
  |some (.string s)=>match bL L y with
   |some (.int .i64 z)=>match P.underlying t with
    |some .string=>some (d,s,z)
    |_=>none
   |_=>none
  |_=>none
 |_=>none
theorem iL{α:Type}{k:UInt8->Option α}{r:α}{s:BA}{ix:Int}(d:Nat)(f:(eK s ix).bind k=some r)(h:∀z:UInt8,k z=some r->WO P n ops Q (i+1) ((d,.int .u8 (z.toNat:Int))::L) w)
  (a:qBj P ops L i=some (d,s,ix):=by kernel_rfl) (e:Nat.blt d n=true:=by exact rfl) (hi:Nat.blt i ops.size=true:=by exact rfl):WO P n ops Q i L w:=by
 obtain⟨z,b,c⟩:=aW f
 unfold qBj at a
 split at a
 .rename_i ha
  split at a
  .rename_i hb
   split at a
   .rename_i hc
    split at a
    .rename_i hu
     cases a
     exact bB hi (qEr (k:= .i64) ha e hb hc hu b (h z c))
    cases a
   cases a
  cases a
 cases a
def qBd(ops:Array Oper)(L:bJ)(i:Nat):Option (Nat×BA×BA):=
 match cL ops L i with
 |some (some d,.binOp .add _ x y _)=>match bL L x with
  |some (.string s)=>match bL L y with
   |some (.string z)=>some (d,s,z)
   |_=>none
  |_=>none
 |_=>none
theorem eS{α:Type}{k:BA->Option α}{r:α}{a b:BA}(d:Nat)(l:(cC a b).bind k=some r)(h:∀s,k s=some r->WO P n ops Q (i+1) ((d,.string s)::L) w)
  (c:qBd ops L i=some (d,a,b):=by kernel_rfl) (g:Nat.blt d n=true:=by exact rfl) (hi:Nat.blt i ops.size=true:=by exact rfl):WO P n ops Q i L w:=by
 obtain⟨z,e,f⟩:=aW l
 unfold qBd at c
 split at c
 .rename_i ha
  split at c
  .rename_i hb
   split at c
   .rename_i hc
    cases c
    exact bB hi (qLm ha g hb hc e (h z f))
   cases c
  cases c
 cases c
def qAw(P:Program)(ops:Array Oper)(L:bJ)(i:Nat):Option (Nat×Value×Int×Nat):=
 match cL ops L i with
 |some (some d,.indexAddr t x y)=>match bL L x with
  |some v=>match bL L y with
   |some (.int .i64 z)=>(qR P t).map fun q=>(d,v,z,q.2)
   |_=>none
  |_=>none
 |_=>none
theorem dQ{α β:Type}{c:Codec α}{a:Option Addr}{cap:Nat}{l:List α}{ix:Int}{k:α->Option β}{r:β}(d:Nat)(g:RepS c m a cap l)(x:(idx l ix).bind k=some r)
  (h:∀z,k z=some r->∀b o cs,c.rep m z cs->MRow m b o cs->WO P n ops Q (i+1) ((d,.pointer (some ⟨b,o,none⟩))::L) w)
  (f:qAw P ops L i=some (d,.slice a l.length cap,ix,c.sz):=by kernel_rfl) (u:Nat.blt d n=true:=by exact rfl) (hi:Nat.blt i ops.size=true:=by exact rfl):WO P n ops Q i L w:=by
 obtain⟨z,q,t⟩:=aW x
 unfold qAw at f
 split at f
 .rename_i ha
  split at f
  .rename_i hb
   split at f
   .rename_i hc
    simp only[kT,Prod.mk.injEq] at f
    obtain⟨⟨e,s⟩,v,rfl,rfl,rfl,p⟩:=f
    simp only at p
    subst p
    exact bB hi (qHn (k:= .i64) c ha u hb hc v g q (h z t))
   cases f
  cases f
 cases f
theorem iT{α β:Type}{c:Codec α}{a:Option Addr}{cap:Nat}{l k:List α}{v:Value}{f:List α->Option β}{r:β}(d t u e by_:Nat)(x y:Operand)(g:St m (.room a l.length cap e c.sz::own) w)(B:sJ P u e)(b:RepS c m a cap l)(p:Gives P c m v k)(A:(cP by_ l k).bind f=some r)
 (h:∀z,f z=some r->∀a' cap' m' w',m.le m'->St m' (.room a' (List.length z) cap' e c.sz::own) w'->RepS c m' a' cap' z->WO P n ops Q (i+1) ((d,.slice a' (List.length z) cap')::L) w')
 (s:cL ops L i=some (some d,.call {callee:= .builtin .append,args:= #[x,y],argTypes:= #[t,u]}):=by kernel_rfl) (o:Nat.blt d n=true:=by exact rfl) (D:bL L x=some (.slice a l.length cap):=by kernel_rfl) (E:bL L y=some v:=by kernel_rfl)
 (hi:sD P t=some (e,c.sz,by_,c.sz):=by kernel_rfl) (q:Nat.blt i ops.size=true:=by exact rfl):WO P n ops Q i L w:=bB q (uY d t u e by_ x y g B b p A h s o D E hi)
theorem aL{α β:Type}{f:Nat}{args:Array Value}{x:Option β}{k:β->Option α}{r:α}{T:β->Ending->World->Prop}(d:Nat)(g:x.bind k=some r)(a:∀{y},x=some y->Calls P f args w (T y))
  (h:∀y,k y=some r->∀e w',T y e w'->GoOn (fun v=>WO P n ops Q (i+1) ((d,v)::L) w') e) (c:sX P ops L i=some (some d,f,args):=by kernel_rfl) (b:Nat.blt d n=true:=by exact rfl) (hi:Nat.blt i ops.size=true:=by exact rfl):WO P n ops Q i L w:=
 qNe d g (fun _=>a) h c b hi
theorem dL{α β:Type}{f:Nat}{args:Array Value}{x:Option β}{k:β->Option α}{r:α}{T:β->Ending->World->Prop}(d:Nat)(g:x.bind k=some r)(a:∀{y},x=some y->Calls P f args w (T y))
  (h:∀y,k y=some r->∀e w',T y e w'->GoOnF (fun v=>WO P n ops Q (i+1) ((d,v)::L) w') (fun ch=>X n Q (.panic ch) L w') e) (c:sX P ops L i=some (some d,f,args):=by kernel_rfl) (b:Nat.blt d n=true:=by exact rfl) (hi:Nat.blt i ops.size=true:=by exact rfl):WO P n ops Q i L w:=
 qMe d g (fun _=>a) h c b hi
theorem aB{id:Nat}{y:Code}(k:Nat)(new:bJ)(h:W none P n y Q (new++L) w)(a:zT P n ops k 0 L (new.map (·.1))=some (new.map fun p=>some p.2):=by kernel_rfl)
 (b:uW L new (dZ ops k 0)=true:=by kernel_rfl) (hi:ops.size=0+k:=by exact rfl):W none P n (.seq (.region id ops false) y) Q L w:=aC (aG k new h a b hi)
theorem aU{id:Nat}{y:Code}(k:Nat)(new:bJ)(h:WO P n ops (Exit.then (fun a w=>y.wpIn (mW none) 0 P Q a w) Q) (0+k) (new++L) w)(b:zT P n ops k 0 L (new.map (·.1))=some (new.map fun p=>some p.2):=by kernel_rfl)
 (c:uW L new (dZ ops k 0)=true:=by kernel_rfl):W none P n (.seq (.region id ops false) y) Q L w:=aC (aA k new h b c)
theorem cO{σ β:Type}{f:σ->Option (σ⊕β)}{k:Nat}{s:σ}{b:β}(h:aI f (k+1) s=some b):∃c,f s=some c/\(∀s',.inl s'=c->aI f k s'=some b)/\(∀b',.inr b'=c->b'=b):=by
 obtain⟨c,a,d,g⟩:=qGg h
 exact⟨c,a,fun s' e=>d s' e.symm,fun b' e=>g b' e.symm⟩
theorem cF{k:Nat}{I:Nat->bJ->World->Prop}(h:I k L w):X n (Exit.then (fun a' w'=>∃k' L',k'<k+1/\Fits n a' L'/\I k' L' w') Q) .normal L w:=qMl k (Nat.lt_succ_self k) h
theorem cI{α β:Type}{x:Option α}{f:α->Option β}{b:β}{c:Code}(e:Exit)(k:x.bind f=some b)(I:α->bJ->World->Prop)(d:∀o,f o=some b->∀L' w',I o L' w'->X n Q e L' w')
  (a:∀o,x=some o->(∀L' w',I o L' w'->X n Q e L' w')->W ρ P n c Q L w):W ρ P n c Q L w:=by
 obtain⟨o,g,h⟩:=aW k
 exact a o g (d o h)
theorem dK{α β:Type}{x:Option α}{f:α->Option β}{b:β}(j:Nat)(g:x.bind f=some b)(I:α->bJ->World->Prop)(a:∀o,f o=some b->∀L' w',I o L' w'->WO P n ops Q j L' w')
  (c:∀o,x=some o->(∀L' w',I o L' w'->WO P n ops Q j L' w')->WO P n ops Q i L w):WO P n ops Q i L w:=by
 obtain⟨o,d,e⟩:=aW g
 exact c o d (a o e)
class RetQ(P:outParam Program)(Q:Exit->Act->World->Prop)(fn:outParam Func)(R:outParam (Ending->World->Prop)):Prop where
 out:∀a w,bodyPost P fn R .ret a w->Q .ret a w
instance rq1{fn:Func}{R:Ending->World->Prop}:RetQ P (bodyPost P fn R) fn R:=⟨fun _ _ h=>h⟩
instance rq2{fn:Func}{R:Ending->World->Prop}{K:Act->World->Prop}[h:RetQ P Q fn R]:RetQ P (Exit.then K Q) fn R:=⟨h.out⟩
instance rq3{fn:Func}{R:Ending->World->Prop}{id:Nat}[h:RetQ P Q fn R]:RetQ P (Exit.inBlock id Q) fn R:=⟨h.out⟩
theorem iW{k:Nat}{fn:Func}{R:Ending->World->Prop}[hq:RetQ P Q fn R]{b e:Nat}{c:Array Value}{f:Nat×Nat}(s t:Nat)(ts:List Nat)(vs:List Value)(n:Piece.holds m w (.blk b (.cells c e f)))(h:R (.returned (uZ (.agg c::vs))) w)
  (l:fn.results=(ResultVar.cell s t::ts.map ResultVar.tmp).toArray:=by exact rfl) (p:look L s=some (.pointer (some ⟨b,0,none⟩)):=by kernel_rfl) (q:oH P t c.toList=some (.agg c):=by kernel_rfl) (d:ts.map (look L)=vs.map some:=by kernel_rfl):X ⟨k,[]⟩ Q .ret L w:=by
 refine fun a g=>hq.out a w (AA (ResultVar.cell s t::ts.map .tmp) (.agg c::vs) l (ResAll.cons (ResAt.blk (o:=0) p n (by simpa using q)) ?_) h a g)
 clear l h p q n g hq
 induction ts generalizing vs with
 |nil=>cases vs with
  |nil=>rfl
  |cons v vs=>cases d
 |cons t ts r=>cases vs with
  |nil=>cases d
  |cons v vs=>
   rw[kG,kG,kV] at d
   exact ResAll.cons (ResAt.tmp d.1) (r vs d.2)
end
end
end Go.Dc
namespace Go.Proofs.YthbfjomffkpjdaaGreatDoor
section
open Go Go.Dc
abbrev Ta:=Option Int
abbrev Tb:=List Int
abbrev Tc:=Tb×Int
abbrev Td:=BA
abbrev Te:=List Td
abbrev Tf:=Int×Int×Int×Td×Tb
abbrev Tg:=List Tf
abbrev Th:=Tg×Tb×Int×Tc
abbrev Ti:=Tg×Tb×Tc
abbrev Tj:=Option Bool
abbrev Tk:=Int×Td
abbrev Tl:=Tb×Int×Te
abbrev Tm:=Int×Td×Te×Tg
abbrev Tn:=List Tm
abbrev To:=Tb×Int×Tn
abbrev Tp:=Td×Te×Tn
abbrev Tq:=Tc×Tp
abbrev Tr:=List UInt8
abbrev Ts:=Int×Int
abbrev Tt:=Option (List Ts)
abbrev Tu:=List Tk
abbrev Tv:=Td×Int
abbrev Tw:=Td×Int×Te
abbrev Tx:=Option (Int⊕Unit⊕Bool)
abbrev Ty:=Int×Tb
abbrev Tz:=Option (Int⊕Unit⊕Int)
abbrev mJ:=Option Td
abbrev pJ:=(Bool×Tr)×Tg×Te×Int
abbrev xI:=Option pJ
abbrev JD:=Bool×Tr×Tg×Te×Int
abbrev EH:=Int×JD
abbrev EJ:=Int×Tr
abbrev T1b:=Tv⊕Td
abbrev mB:=Int×Td×Ts
abbrev EG:=mB×Ts
abbrev mV:=List mB
abbrev EF:=mV×Int
abbrev EB:=mV×Ts
abbrev cE:=mV×Int×Int×Int×Te×Tg×Tb
abbrev T1i:=cE×mB
abbrev IW:=cE×Bool
abbrev AO:=Option (Bool×cE)
abbrev pX:=Option cE
abbrev AN:=cE×Td
abbrev oM:=cE×Int
abbrev eG:=Option oM
abbrev JE:=Tb×cE
abbrev rE:=Int×cE
abbrev T1r:=rE⊕rE
abbrev T1s:=rE⊕T1r
abbrev sN:=mV×Int×Int×Int×Te×Tg×Tb×Te
abbrev T1u:=cE×Tm
abbrev T1v:=mV×Int×Int×Int×Te×Tg×Tc
abbrev IZ:=mV×Int×Int×Int×Te×Tg×Tb×Tn
abbrev T1x:=Tp×Ts
abbrev bK:=mV×Int×Te×Tg
abbrev vW:=bK×mB
abbrev IY:=Ts⊕bK
abbrev T21:=bK⊕IY
abbrev AQ:=Ts⊕vW
abbrev EE:=Unit⊕AQ
abbrev uG:=Te×bK
abbrev T25:=Ts⊕bK×Te
abbrev T26:=Unit⊕uG⊕uG⊕T25
abbrev oL:=bK×Int
abbrev nV:=Ts⊕oL
abbrev eA:=Option nV
abbrev xJ:=Unit⊕nV
abbrev T2b:=bK×Tb
abbrev IS:=Ts⊕T2b
abbrev rX:=Option IS
abbrev AM:=Tb×bK
abbrev T2f:=Int×Int×Td×AM⊕nV
abbrev T2g:=Unit⊕T2f
abbrev T2h:=mV×Int×Te×Tg×mB
abbrev AP:=Ts⊕bK×Tm
abbrev EI:=Unit⊕AP
abbrev JA:=mV×Int×Te×Tg×Te
abbrev T2l:=Ts⊕bK×Tp
abbrev IX:=JA⊕JA⊕T2l
abbrev IU:=mV×Int×Te×Tg×Tn
abbrev C1:=aV .i64
abbrev C2:=sK C1 (sK C1 (sK C1 (sK aH (EC C1))))
abbrev C3:=sK C1 (sK aH (sK (EC aH) (EC C2)))
abbrev C4:=sK C1 aH
abbrev C5:=sK C1 (sK aH (sK C1 C1))
abbrev vS{α:Type}(a:Option Addr)(l:List α)(c:Nat):Value:= .slice a (List.length l) c
abbrev vP(b o:Nat):Value:= .pointer (some ⟨b,o,none⟩)
abbrev vI(x:Int):Value:= .int .i64 x
abbrev vT(s:BA):Value:= .string s
abbrev vB(b:Bool):Value:= .bool b
abbrev eB:BA:=⟨#[]⟩
abbrev aP(b:Nat):Option Addr:=some ⟨b,0,none⟩
abbrev kB(b:Nat)(c:Array Value)(e:Nat):Piece:= .blk b (.cells c e (0,0))
abbrev kR{α:Type}(a:Option Addr)(l:List α)(c e s:Nat):Piece:= .room a (List.length l) c e s
abbrev V1{α0:Type}(p:List α0×Int)(a0:Option Addr)(c0:Nat):Array Value:= #[vS a0 p.1 c0,vI p.2]
abbrev V2{α1:Type}{α2:Type}(p:BA×List α1×List α2)(a1:Option Addr)(c1:Nat)(a2:Option Addr)(c2:Nat):Array Value:= #[vT p.1,vS a1 p.2.1 c1,vS a2 p.2.2 c2]
abbrev V3{α4:Type}(p:Int×Int×Int×BA×List α4)(a4:Option Addr)(c4:Nat):Array Value:= #[vI p.1,vI p.2.1,vI p.2.2.1,vT p.2.2.2.1,vS a4 p.2.2.2.2 c4]
abbrev V4{α4:Type}(p:Int×Int×Int×BA×List α4)(a4:Option Addr)(c4:Nat):List Value:=[vI p.1,vI p.2.1,vI p.2.2.1,vT p.2.2.2.1,vS a4 p.2.2.2.2 c4]
abbrev V6{α2:Type}{α3:Type}(p:Int×BA×List α2×List α3)(a2:Option Addr)(c2:Nat)(a3:Option Addr)(c3:Nat):Array Value:= #[vI p.1,vT p.2.1,vS a2 p.2.2.1 c2,vS a3 p.2.2.2 c3]
abbrev V7{α2:Type}{α3:Type}(p:Int×BA×List α2×List α3)(a2:Option Addr)(c2:Nat)(a3:Option Addr)(c3:Nat):List Value:=[vI p.1,vT p.2.1,vS a2 p.2.2.1 c2,vS a3 p.2.2.2 c3]
abbrev V8{α1:Type}{α2:Type}(p:BA×List α1×List α2)(a1:Option Addr)(c1:Nat)(a2:Option Addr)(c2:Nat):List Value:=[vT p.1,vS a1 p.2.1 c1,vS a2 p.2.2 c2]
abbrev V9(p:Int×BA):Array Value:= #[vI p.1,vT p.2]
abbrev Va(p:Int×BA×Int×Int):Array Value:= #[vI p.1,vT p.2.1,vI p.2.2.1,vI p.2.2.2]
abbrev Vb(x0:Int)(x1:BA)(x2:Int)(x3:Int):Array Value:= #[vI x0,vT x1,vI x2,vI x3]
abbrev Vc{α0:Type}{α4:Type}{α5:Type}{α6:Type}(p:List α0×Int×Int×Int×List α4×List α5×List α6)(a0:Option Addr)(c0:Nat)(a4:Option Addr)(c4:Nat)(a5:Option Addr)(c5:Nat)(a6:Option Addr)(c6:Nat):Array Value:= #[vS a0 p.1 c0,vI p.2.1,vI p.2.2.1,vI p.2.2.2.1,vS a4 p.2.2.2.2.1 c4,vS a5 p.2.2.2.2.2.1 c5,vS a6 p.2.2.2.2.2.2 c6]
abbrev Vd{α0:Type}{α4:Type}{α5:Type}{α6:Type}(a0:Option Addr)(l0:List α0)(c0:Nat)(x1:Int)(x2:Int)(x3:Int)(a4:Option Addr)(l4:List α4)(c4:Nat)(a5:Option Addr)(l5:List α5)(c5:Nat)(a6:Option Addr)(l6:List α6)(c6:Nat):Array Value:= #[vS a0 l0 c0,vI x1,vI x2,vI x3,vS a4 l4 c4,vS a5 l5 c5,vS a6 l6 c6]
abbrev Ve{α0:Type}{α2:Type}{α3:Type}(p:List α0×Int×List α2×List α3)(a0:Option Addr)(c0:Nat)(a2:Option Addr)(c2:Nat)(a3:Option Addr)(c3:Nat):Array Value:= #[vS a0 p.1 c0,vI p.2.1,vS a2 p.2.2.1 c2,vS a3 p.2.2.2 c3]
abbrev Vf(p:Int×Int):Array Value:= #[vI p.1,vI p.2]
abbrev ba:BA:=⟨#[102]⟩
abbrev bb:BA:=⟨#[112]⟩
abbrev bc:BA:=⟨#[113]⟩
abbrev bd:BA:=⟨#[105,102]⟩
abbrev be:BA:=⟨#[120]⟩
abbrev bf:BA:=⟨#[121]⟩
abbrev bg:BA:=⟨#[122]⟩
abbrev bh:BA:=⟨#[119]⟩
abbrev bi:BA:=⟨#[118]⟩
abbrev bj:BA:=⟨#[115]⟩
abbrev bk:BA:=⟨#[97,98,99,100,101,102,103,104,105,106,107,108,109,110,111,112,113,114,115,116,117,118,119,120,121,122]⟩
abbrev bl:BA:=⟨#[48,49,50,51,52,53,54,55,56,57]⟩
abbrev bm:BA:=⟨#[95]⟩
abbrev bn:BA:=⟨#[46]⟩
abbrev bo:BA:=⟨#[9,10,13,32]⟩
abbrev bp:BA:=⟨#[35]⟩
abbrev bq:BA:=⟨#[34]⟩
abbrev br:BA:=⟨#[59,44,40,41,43,45,42,47,37,60,61]⟩
abbrev bs:BA:=⟨#[112,97,99,107,97,103,101]⟩
abbrev bt:BA:=⟨#[105,109,112,111,114,116]⟩
abbrev bu:BA:=⟨#[102,117,110,99]⟩
abbrev bv:BA:=⟨#[116,101,115,116]⟩
abbrev bw:BA:=⟨#[103,101,110]⟩
abbrev bx:BA:=⟨#[116,104,101,110]⟩
abbrev bz:BA:=⟨#[101,108,115,101]⟩
abbrev b17:BA:=⟨#[114,101,97,100]⟩
abbrev b18:BA:=⟨#[115,105,122,101]⟩
abbrev b19:BA:=⟨#[104,97,115]⟩
abbrev b1a:BA:=⟨#[101,110,118]⟩
abbrev b1b:BA:=⟨#[102,108,105,112]⟩
abbrev nT:BA:=⟨#[43]⟩
abbrev nU:BA:=⟨#[45]⟩
abbrev nW:BA:=⟨#[42]⟩
abbrev nQ:BA:=⟨#[47]⟩
abbrev nS:BA:=⟨#[37]⟩
abbrev nR:BA:=⟨#[60]⟩
abbrev mX:BA:=⟨#[61,61]⟩
abbrev tF:BA:=⟨#[32]⟩
abbrev uD:BA:=⟨#[105,102,32]⟩
abbrev uE:BA:=⟨#[32,116,104,101,110,32]⟩
abbrev uF:BA:=⟨#[32,101,108,115,101,32]⟩
abbrev b1n:BA:=⟨#[44,32]⟩
abbrev P1(m:Mem)(a0:Option Addr)(c0:Nat)(a1:Option Addr)(c1:Nat)(p:(List (BA))×(List ((Int)×((Int)×((Int)×((BA)×(List (Int)))))))):Prop:=RepS aH m a0 c0 p.1/\RepS C2 m a1 c1 p.2
abbrev P2(m:Mem)(a0:Option Addr)(c0:Nat)(a1:Option Addr)(c1:Nat)(p:(List (BA))×(List ((Int)×((BA)×((List (BA))×(List ((Int)×((Int)×((Int)×((BA)×(List (Int)))))))))))):Prop:=RepS aH m a0 c0 p.1/\RepS C3 m a1 c1 p.2
abbrev P3{X1:Type}{X2:Type}(m:Mem)(a0:Option Addr)(c0:Nat)(a1:Option Addr)(c1:Nat)(a2:Option Addr)(c2:Nat)(p:((X1)×(List (UInt8)))×((List ((Int)×((Int)×((Int)×((BA)×(List (Int)))))))×((List (BA))×(X2)))):Prop:=RepS iX m a0 c0 p.1.2/\RepS C2 m a1 c1 p.2.1/\RepS aH m a2 c2 p.2.2.1
abbrev P4{X1:Type}{X2:Type}{X3:Type}(m:Mem)(a0:Option Addr)(c0:Nat)(a1:Option Addr)(c1:Nat)(a2:Option Addr)(c2:Nat)(a3:Option Addr)(c3:Nat)(p:(List ((Int)×((BA)×((Int)×(Int)))))×((X3)×((X2)×((X1)×((List (BA))×((List ((Int)×((Int)×((Int)×((BA)×(List (Int)))))))×(List (Int)))))))):Prop:=RepS C5 m a0 c0 p.1/\RepS aH m a1 c1 p.2.2.2.2.1/\RepS C2 m a2 c2 p.2.2.2.2.2.1/\RepS (aV .i64) m a3 c3 p.2.2.2.2.2.2
abbrev P5{X1:Type}{X2:Type}{X3:Type}{X4:Type}(m:Mem)(a0:Option Addr)(c0:Nat)(a1:Option Addr)(c1:Nat)(a2:Option Addr)(c2:Nat)(a3:Option Addr)(c3:Nat)(p:(List ((Int)×((BA)×((Int)×(Int)))))×((X4)×((X3)×((X2)×((List (BA))×((List ((Int)×((Int)×((Int)×((BA)×(List (Int)))))))×((List (Int))×(X1)))))))):Prop:=RepS C5 m a0 c0 p.1/\RepS aH m a1 c1 p.2.2.2.2.1/\RepS C2 m a2 c2 p.2.2.2.2.2.1/\RepS (aV .i64) m a3 c3 p.2.2.2.2.2.2.1
abbrev P6{X1:Type}{X2:Type}{X3:Type}(m:Mem)(a0:Option Addr)(c0:Nat)(a1:Option Addr)(c1:Nat)(a2:Option Addr)(c2:Nat)(a3:Option Addr)(c3:Nat)(a4:Option Addr)(c4:Nat)(p:(List ((Int)×((BA)×((Int)×(Int)))))×((X3)×((X2)×((X1)×((List (BA))×((List ((Int)×((Int)×((Int)×((BA)×(List (Int)))))))×((List (Int))×(List (BA))))))))):Prop:=RepS C5 m a0 c0 p.1/\RepS aH m a1 c1 p.2.2.2.2.1/\RepS C2 m a2 c2 p.2.2.2.2.2.1/\RepS (aV .i64) m a3 c3 p.2.2.2.2.2.2.1/\RepS aH m a4 c4 p.2.2.2.2.2.2.2
abbrev P7{X1:Type}(m:Mem)(a0:Option Addr)(c0:Nat)(a1:Option Addr)(c1:Nat)(a2:Option Addr)(c2:Nat)(p:(List ((Int)×((BA)×((Int)×(Int)))))×((X1)×((List (BA))×(List ((Int)×((Int)×((Int)×((BA)×(List (Int)))))))))):Prop:=RepS C5 m a0 c0 p.1/\RepS aH m a1 c1 p.2.2.1/\RepS C2 m a2 c2 p.2.2.2
abbrev P8{X1:Type}(m:Mem)(a0:Option Addr)(c0:Nat)(a1:Option Addr)(c1:Nat)(a2:Option Addr)(c2:Nat)(a3:Option Addr)(c3:Nat)(p:((List ((Int)×((BA)×((Int)×(Int)))))×((X1)×((List (BA))×(List ((Int)×((Int)×((Int)×((BA)×(List (Int))))))))))×(List (Int))):Prop:=RepS C5 m a0 c0 p.1.1/\RepS aH m a1 c1 p.1.2.2.1/\RepS C2 m a2 c2 p.1.2.2.2/\RepS (aV .i64) m a3 c3 p.2
abbrev P9{X1:Type}(m:Mem)(a0:Option Addr)(c0:Nat)(a1:Option Addr)(c1:Nat)(a2:Option Addr)(c2:Nat)(a3:Option Addr)(c3:Nat)(p:(List (Int))×((List ((Int)×((BA)×((Int)×(Int)))))×((X1)×((List (BA))×(List ((Int)×((Int)×((Int)×((BA)×(List (Int))))))))))):Prop:=RepS (aV .i64) m a0 c0 p.1/\RepS C5 m a1 c1 p.2.1/\RepS aH m a2 c2 p.2.2.2.1/\RepS C2 m a3 c3 p.2.2.2.2
abbrev _root_.Go.Dc.St.f1:=@Go.Dc.St.front1
abbrev _root_.Go.Dc.St.f2:=@Go.Dc.St.front2
abbrev _root_.Go.Dc.St.f3:=@Go.Dc.St.front3
abbrev _root_.Go.Dc.St.f4:=@Go.Dc.St.front4
abbrev _root_.Go.Dc.St.f5:=@Go.Dc.St.front5
abbrev _root_.Go.Dc.St.f6:=@Go.Dc.St.front6
abbrev _root_.Go.Dc.St.f7:=@Go.Dc.St.front7
abbrev _root_.Go.Dc.St.f8:=@Go.Dc.St.front8
abbrev _root_.Go.Dc.St.h:=@Go.Dc.St.head
abbrev _root_.Go.Dc.St.t:=@Go.Dc.St.tail
abbrev wr(x:Int):Int:=IntKind.wrap .i64 x
abbrev v6:Value:=vS none ([]:Tg) 0
abbrev v7:Value:=vS none ([]:Tb) 0
abbrev v8:Value:= .slice none 0 0
abbrev va:Value:=vS none ([]:Te) 0
abbrev vb:Value:=vS none ([]:Tn) 0
abbrev vc:Value:=vS none ([]:Tr) 0
abbrev vd:Value:=vS none ([]:mV) 0
end
end Go.Proofs.YthbfjomffkpjdaaGreatDoor
