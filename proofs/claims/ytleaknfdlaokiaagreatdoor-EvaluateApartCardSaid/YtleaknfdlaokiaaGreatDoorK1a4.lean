/- No condition but those of each theorem. -/
import Derived.Test.YtleaknfdlaokiaaGreatDoorProg
import Derived.WalkKit
import Derived.Deep.LoopGhost
import Derived.KernelRfl
import Derived.OrdersHeld
import Derived.OrdersIn
import Derived.LoopNIn
import Derived.Sort.LoopGhostIn
import Derived.Laws.AppendOwn
import Derived.RangeFuncLeaves
import Derived.RangeFuncRecord
import Derived.MapKept
import Derived.Maps.RangeRun
import Derived.ChangeKeysEq
import Derived.HandedShaped
import Derived.ChangeStays
import Derived.ChangeSame
import Derived.OpenShut
import Derived.WideShapes
import Derived.JoinedOf
import Derived.ReadAgain
import Derived.ChangeAt
import Derived.RowKit
import Derived.Lib.Overlaps
import Derived.Shelf.SlSortCmp.NoneTotal
import Derived.WalkSmall
import Derived.Recover
section
theorem aa{p:Prop}(h:p:=by omega):p:=h
theorem ac{p:Prop}(h:p:=by decide):p:=h
theorem ae{p:Prop}(h:p:=by simp):p:=h
theorem af{p:Prop}(h:p:=by decide+kernel):p:=h
theorem ah{p:Prop}(h:p:=by kernel_rfl):p:=h
theorem ai{p:Prop}(h:p:=by simp;omega):p:=h
theorem ak{p:Prop}(h:p:=by assumption):p:=h
theorem al{p:Prop}(h:p:=by simp only;omega):p:=h
theorem am{p:Prop}(h:p:=by first|omega|(dsimp only;omega)):p:=h
namespace Go
abbrev j0:=@Option.bind_some
abbrev j6:=@decide_eq_true_eq
abbrev j9:=@Bool.false_eq_true
abbrev jA:=@List.length_cons
abbrev jB:=@List.length_nil
abbrev jC:=@if_false
abbrev jD:=@Option.some.inj
abbrev jE:=@if_true
abbrev jF:=@List.length_append
abbrev jG:=@Option.some.injEq
abbrev jH:=@List.drop_eq_getElem_cons
abbrev jI:=@List.mem_cons
abbrev jJ:=@Bool.and_eq_true
abbrev jK:=@Option.bind_eq_some_iff
abbrev jL:=@List.mem_cons_self
abbrev jM:=@decide_eq_true
abbrev jN:=@List.all_eq_true
abbrev jO:=@List.mem_cons_of_mem
abbrev jP:=@Nat.le_refl
abbrev jQ:=@List.drop_eq_nil_of_le
abbrev jR:=@decide_eq_false
abbrev jS:=@List.drop_zero
abbrev jT:=@List.getElem_mem
abbrev jU:=@List.getD_eq_getElem?_getD
abbrev jV:=@List.pairwise_cons
abbrev jW:=@List.nil_append
abbrev jX:=@List.eq_nil_of_length_eq_zero
abbrev jY:=@Bool.eq_iff_iff
abbrev jZ:=@Bool.not_false
abbrev kA:=@Option.map_eq_some_iff
abbrev kC:=@List.foldl_cons
abbrev kD:=@Int.toNat_natCast
abbrev kE:=@Sum.map_inr
abbrev kF:=@beq_iff_eq
abbrev kG:=@Nat.zero_le
abbrev kH:=@Nat.add_mul
abbrev kI:=@Bool.not_true
abbrev kJ:=@List.map_cons
abbrev kK:=@Option.map_some
abbrev kL:=@List.cons.injEq
abbrev kM:=@List.append_assoc
abbrev kN:=@Nat.mul_le_mul_right
abbrev kO:=@List.take_append_of_le_length
abbrev kP:=@List.length_drop
abbrev kQ:=@List.flatMap_cons
abbrev kS:=@Nat.le_of_ble_eq_true
abbrev kT:=@List.take_succ_eq_append_getElem
abbrev kU:=@List.filter_cons
abbrev kV:=@of_decide_eq_true
abbrev kW:=@Nat.zero_add
abbrev kX:=@Nat.le_trans
abbrev kY:=@List.extract_eq_take_drop
abbrev kZ:=@List.length_singleton
abbrev gA:=@List.perm_middle
abbrev gB:=@List.mem_append_left
abbrev gC:=@List.drop_append_of_le_length
abbrev gD:=@List.cons_append
abbrev gE:=@Int.natCast_succ
abbrev gF:=@List.foldl_append
abbrev gG:=@Nat.not_lt_zero
abbrev gH:=@List.mem_singleton
abbrev gI:=@List.mem_append
abbrev gJ:=@List.length_map
abbrev gK:=@Bool.false_ne_true
abbrev gL:=@List.takeWhile_cons_of_pos
abbrev gM:=@List.size_toArray
abbrev gN:=@List.mem_map_of_mem
abbrev gO:=@List.mem_of_find?_eq_some
abbrev gP:=@List.mem_filter
abbrev gQ:=@List.append_nil
abbrev gS:=@List.not_mem_nil
abbrev gT:=@Array.toList_extract
abbrev gU:=@Nat.add_zero
abbrev gV:=@List.mem_range
abbrev gW:=@Option.bind_assoc
abbrev gX:=@List.map_inj_left
abbrev gY:=@List.nodup_cons
abbrev gZ:=@Array.toList_modify
abbrev fA:=@List.take_of_length_le
abbrev fB:=@List.takeWhile_cons_of_neg
abbrev fC:=@beq_self_eq_true
abbrev fD:=@Nat.eq_of_beq_eq_true
abbrev fE:=@List.mem_map
abbrev fF:=@List.length_filter_le
abbrev fG:=@List.mem_of_getElem?
abbrev fH:=@bne_iff_ne
abbrev fI:=@Bool.or_eq_true
abbrev fJ:=@Array.toList_push
abbrev fK:=@Nat.add_assoc
abbrev fL:=@List.length_pos_iff
abbrev fM:=@List.filterMap_cons
abbrev fN:=@List.take_length
abbrev fO:=@List.mem_flatMap
abbrev fP:=@List.length_take
abbrev fQ:=@List.any_eq_true
abbrev fR:=@List.getElem_cons_drop
abbrev fS:=@Nat.lt_of_lt_of_le
abbrev fT:=@Nat.add_comm
abbrev fU:=@bne_self_eq_false
abbrev fV:=@Bool.not_eq_true'
abbrev fW:=@Array.size_append
abbrev fX:=@Array.size_replicate
abbrev fY:=@List.drop_length
abbrev fZ:=@List.drop_append
abbrev hD:=@Nat.one_mul
abbrev hH:=@List.toList_toArray
abbrev hJ:=@List.getElem_modify
abbrev hQ:=@Nat.lt_or_ge
abbrev hU:=@Nat.add_sub_cancel
abbrev hZ:=@List.length_eq_zero_iff
abbrev dA:=@Bool.true_and
abbrev dB:=@List.takeWhile_sublist
abbrev dC:=@List.ext_getElem?
abbrev dD:=@Int.le_refl
abbrev dE:=@List.drop_drop
abbrev dF:=@List.getElem_map
abbrev dG:=@Bool.toNat_false
abbrev dH:=@Bool.false_or
abbrev dI:=@Nat.one_pos
abbrev BA:=ByteArray
theorem ad{p:Prop}(h:p:=by simp only[j6];omega):p:=h
theorem ag{p:Prop}(h:p:=by simp only[jA,jB];omega):p:=h
theorem aj{p:Prop}(h:p:=by simp only[jF,jA,jB];omega):p:=h
end Go
end
namespace Go.Dc
section
theorem kr{p:Prop}(h:p:=by kernel_rfl):p:=h
abbrev bK:=List (Nat×Value)
def iB:bK->Nat->Option Value
 |[],_=>none
 |(k,v)::L,t=>bif Nat.beq k t then some v else iB L t
theorem qLk(A L:bK)(t:Nat):iB (A++L) t=(iB A t).or (iB L t):=by
 induction A with
 |nil=>simp[iB]
 |cons p A a=>obtain⟨k,v⟩:=p;simp only[gD,iB];cases Nat.beq k t<;>simp[a]
def bV(L:bK):Operand->Option Value
 | .tmp t=>iB L t
 | .const v=>some v
 | .global g=>some (.pointer (some ⟨g,0,none⟩))
 | .func f=>some (.func (.func f) #[] #[])
theorem ev{L:bK}{x:Operand}(v:Value)(h:bV L x=some v:=by kernel_rfl):bV L x=some v:=h
def mQ(L:bK)(x:Operand):Value:=(bV L x).getD undef
structure Fr where
 sz:Nat
 marks:List Deferred
instance:Coe Fr Nat:=⟨Fr.sz⟩
def IP(D:Nat):Deferred:={target:= .collected D,args:= #[]}
def Fits(n:Fr)(a:Act)(L:bK):Prop:=a.tmps.size=n.sz/\a.defers=n.marks/\∀t v,iB L t=some v->a.tmps[t]? =some v
theorem Fits.ev{n:Fr}{a:Act}{L:bK}(h:Fits n a L){x:Operand}{v:Value}(b:bV L x=some v):a.eval x=v:=by
 cases x with
 |tmp t=>simp[Act.eval,h.2.2 t v b]
 |const u=>simp[bV] at b;simp[Act.eval,b]
 |global g=>simp[bV] at b;simp[Act.eval,b]
 |func f=>simp[bV] at b;simp[Act.eval,b]
def qBa:Op->Bool
 | .select .. =>false
 |_=>true
def NU(L:bK):List Operand->Bool
 |[]=>true
 |x::l=>(bV L x).isSome&&NU L l
def oM(L:bK)(o:Op):Bool:=qBa o&&NU L o.operands.toList
theorem qLi{L:bK}{l:List Operand}(h:NU L l=true):∀x∈l,(bV L x).isSome=true:=by
 induction l with
 |nil=>simp
 |cons y l b=>
  simp only[NU,jJ] at h
  intro x a
  rcases jI.1 a with rfl|a
  .exact h.1
  exact b h.2 x a
theorem Fits.exec{n:Fr}{a:Act}{L:bK}(h:Fits n a L){o:Oper}(ok:oM L o.op=true):execOp a.eval o=execOp (mQ L) o:=by
 simp only[oM,jJ] at ok
 refine execOp_congr o ?_ ?_
 .intro cs b c;rw[c] at ok;simp[qBa] at ok
 intro x d
 have:=qLi ok.2 x (by simpa using d)
 obtain⟨v,c⟩:=Option.isSome_iff_exists.1 this
 rw[h.ev c];simp[mQ,c]
theorem Fits.put{n:Fr}{a:Act}{L:bK}(h:Fits n a L){d:Nat}(g:Nat.blt d n=true)(v:Value):Fits n (a.put (some d) v) ((d,v)::L):=by
 obtain⟨c,e,f⟩:=h
 have hd':d<n:=by simpa[Nat.blt_eq] using g
 refine⟨by simp[Act.put,c],by simp[Act.put,e],?_⟩
 intro t u b
 simp only[iB] at b
 simp only[Act.put]
 by_cases hdt:d=t
 .subst hdt
  simp at b;subst b
  simp[Array.getElem?_setIfInBounds,c,hd']
 have:Nat.beq d t=false:=by cases hb:Nat.beq d t<;>simp_all [Nat.beq_eq]
 rw[this] at b
 simp[Array.getElem?_setIfInBounds,hdt,f t u b]
theorem Fits.sub{n:Fr}{a:Act}{L L':bK}(h:Fits n a L)(b:∀t v,iB L' t=some v->iB L t=some v):Fits n a L':=
 ⟨h.1,h.2.1,fun t v c=>h.2.2 t v (b t v c)⟩
def qO(P:Program){α:Type}:Sem α->Option α
 | .pure a=>some a
 | .program k=>qO P (k P)
 | .mark _ k=>qO P k
 |_=>none
theorem xL{P:Program}{α:Type}{s:Sem α}{a:α}(h:qO P s=some a)(w:World):s.run P w= .ok a w:=by
 induction s with
 |pure b=>simp[qO] at h;subst h;rfl
 |program k c=>exact c P h
 |mark m k c=>exact c h
 |_=>simp[qO] at h
def nO(ops:Array Oper)(L:bK)(g:Option (Nat×Bool)):Option Bool:=
 match g with
 |none=>some true
 |some (j,want)=>match(ops[j]?).bind (·.dst) with
  |none=>some false
  |some t=>match iB L t with
   |none=>none
   |some (.bool b)=>some (bif want then b else !b)
   |some _=>some false
theorem Fits.wanted{n:Fr}{a:Act}{L:bK}(h:Fits n a L){ops:Array Oper}{o:Oper}{b:Bool}(c:nO ops L o.guard=some b):
  Region.wanted o (yielded ops a.tmps)=b:=by
 unfold nO at c
 unfold Region.wanted
 cases f:o.guard with
 |none=>simp[f] at c;simp[c]
 |some jw=>
  obtain⟨j,want⟩:=jw
  simp only[f] at c
  simp only[yielded]
  cases e:(ops[j]?).bind (·.dst) with
  |none=>simp[e] at c;subst c;rfl
  |some t=>
   simp only[e] at c
   cases d:iB L t with
   |none=>simp[d] at c
   |some v=>
    have:=h.2.2 t v d
    simp only[d] at c
    cases v<;>simp_all<;>(subst c;cases want<;>simp)
def putL(n:Nat)(d:Option Nat)(v:Value)(L:bK):Option bK:=
 match d with
 |none=>some L
 |some d=>bif Nat.blt d n then some ((d,v)::L) else none
def JK:Option Next->Option Value
 |some (.value v)=>some v
 |some .skip=>some undef
 |_=>none
def sO(P:Program)(n:Nat)(ops:Array Oper):Nat->Nat->bK->Option bK
 |0,_,L=>some L
 |k+1,i,L=>match ops[i]? with
  |none=>none
  |some o=>match nO ops L o.guard with
   |none=>none
   |some false=>(putL n o.dst undef L).bind fun L=>sO P n ops k (i+1) L
   |some true=>bif oM L o.op then(JK (qO P (execOp (mQ L) o))).bind fun v=>(putL n o.dst v L).bind fun L=>sO P n ops k (i+1) L else none
def vF(ops:Array Oper):Nat->Nat->List Nat
 |0,_=>[]
 |k+1,i=>((ops[i]?).bind (·.dst)).toList++vF ops k (i+1)
def nM(ρ:Option Nat):Fence:={Fence.wide with round:=ρ}
def nY(P:Program)(ops:Array Oper)(Q:Exit->Act->World->Prop)(i:Nat)(K:Act->World->Prop)(a:Act)(w:World):Prop:=
 match ops[i]? with
 |none=>K a w
 |some o=>if Region.wanted o (yielded ops a.tmps) then o.uponIn Fence.wide 0 P a K Q ((execOp a.eval o).run P w) else K (a.put o.dst undef) w
def xX(P:Program)(ops:Array Oper)(Q:Exit->Act->World->Prop):List Nat->Act->World->Prop
 |[],a,w=>Q .normal a w
 |i::rest,a,w=>nY P ops Q i (xX P ops Q rest) a w
theorem YA{ρ:Option Nat}{P:Program}{o:Oper}{a:Act}{K K':Act->World->Prop}{Q:Exit->Act->World->Prop}{r:Result Next}(h:∀a w,K a w->K' a w)(c:o.uponIn Fence.wide 0 P a K Q r):o.uponIn (nM ρ) 0 P a K' Q r:=by
 cases r with
 |ok x w'=>
  cases x<;>simp only[Oper.uponIn] at c ⊢ <;>
   first
    |exact h _ _ c
    |exact⟨fun e=>by simp[nM,Fence.wide] at e,CallsIn.mono (F:=nM ρ) c.2 (fun e w'' b=>by cases e<;>first|exact h _ _ b|exact b)⟩
    |exact⟨fun e=>by simp[nM,Fence.wide] at e,RowsIn.mono (F:=nM ρ) c.2 (fun _ _ b=>h _ _ b)⟩
    |exact⟨fun e=>by simp[nM,Fence.wide] at e,RoundIn.mono (F:=nM ρ) c.2 (fun e w'' b=>by cases e<;>first|exact h _ _ b|exact b)⟩
 |halt x w'=>cases x<;>simp only[Oper.uponIn] at c ⊢ <;>exact c
theorem NK{P:Program}{ops:Array Oper}{Q:Exit->Act->World->Prop}{i:Nat}{K K':Act->World->Prop}{a:Act}{w:World}(h:∀a w,K a w->K' a w)(b:nY P ops Q i K a w):nY P ops Q i K' a w:=by
 unfold nY at*
 split
 .rename_i ho;simp only[ho] at b;exact h _ _ b
 rename_i o ho
 simp only[ho] at b
 split
 .rename_i hw;simp only[hw,jE] at b;exact YA (ρ:=none) h b
 rename_i hw;simp only[hw] at b;exact h _ _ b
def DH(ρ:Option Nat)(ops:Array Oper):Bool:=
 match ρ with
 |none=>true
 |some _=>ops.toList.all fun o=>match o.op with
  | .defer _=>false
  |_=>true
theorem qLn{ρ:Option Nat}{ops:Array Oper}(h:DH ρ ops=true){i:Nat}{o:Oper}(b:ops[i]? =some o)(ev:Operand->Value):o.semAt ρ ev=execOp ev o:=by
 cases ρ with
 |none=>rfl
 |some l=>
  refine Oper.semAt_eq _ _ _ fun c a=> ?_
  have:=jN.1 h o (by simpa using Array.mem_of_getElem? b)
  rw[a] at this
  exact gK this
theorem qEv{ρ:Option Nat}{P:Program}{ops:Array Oper}{Q:Exit->Act->World->Prop}(d:DH ρ ops=true){i:Nat}{K K':Act->World->Prop}(b:∀a w,K a w->K' a w){a:Act}{w:World}(h:nY P ops Q i K a w):wpOpIn (nM ρ) 0 P ops Q i K' a w:=by
 unfold nY at h
 unfold wpOpIn
 cases c:ops[i]? with
 |none=>simp only[c] at h ⊢;exact b _ _ h
 |some o=>
  simp only[c] at h ⊢
  by_cases hw:Region.wanted o (yielded ops a.tmps)=true
  .simp only[hw,jE] at h ⊢
   refine⟨fun _ _=>trivial,?_⟩
   have e:o.semAt (nM ρ).round a.eval=execOp a.eval o:=qLn d c a.eval
   rw[e]
   exact YA b h
  simp only[hw] at h ⊢
  exact⟨fun _ _=>trivial,b _ _ h⟩
theorem qDp{ρ:Option Nat}{P:Program}{ops:Array Oper}{Q:Exit->Act->World->Prop}(b:DH ρ ops=true):∀(l:List Nat) (a:Act) (w:World),xX P ops Q l a w->wpOpsIn (nM ρ) 0 P ops Q l a w
 |[],_,_,h=>h
 |i::rest,a,w,h=>by
  rw[wpOpsIn_cons]
  exact qEv b (qDp b rest) h
def WO(P:Program)(n:Fr)(ops:Array Oper)(Q:Exit->Act->World->Prop)(i:Nat)(L:bK)(w:World):Prop:=
 ∀a,Fits n a L->xX P ops Q (List.range' i (ops.size-i)) a w
theorem HR{ops:Array Oper}{i:Nat}{o:Oper}(h:ops[i]? =some o):List.range' i (ops.size-i)=i::List.range' (i+1) (ops.size-(i+1)):=by
 have hi:i<ops.size:=(Array.getElem?_eq_some_iff.1 h).1
 have:ops.size-i=(ops.size-(i+1))+1:=by omega
 rw[this,List.range'_succ]
theorem Fits.putL{n:Fr}{a:Act}{L L':bK}(h:Fits n a L){d:Option Nat}{v:Value}(b:Dc.putL n d v L=some L'):Fits n (a.put d v) L':=by
 cases d with
 |none=>simp[Dc.putL] at b;subst b;exact h
 |some d=>
  simp only[Dc.putL] at b
  cases c:Nat.blt d n with
  |false=>simp[c] at b
  |true=>simp[c] at b;subst b;exact h.put c v
section
variable {P:Program} {n:Fr} {ops:Array Oper} {Q:Exit->Act->World->Prop}
theorem UF:∀(k i:Nat) (L L':bK) (w:World),sO P n ops k i L=some L'->WO P n ops Q (i+k) L' w->WO P n ops Q i L w
 |0,i,L,L',w,h,g=>by simp[sO] at h;subst h;exact g
 |k+1,i,L,L',w,h,g=>by
  intro a f
  simp only[sO] at h
  cases l:ops[i]? with
  |none=>simp[l] at h
  |some o=>
   simp only[l] at h
   rw[HR l]
   simp only[xX,nY,l]
   cases q:nO ops L o.guard with
   |none=>simp[q] at h
   |some b=>
    have c:=f.wanted q
    cases b with
    |false=>
     simp only[q] at h
     obtain⟨L1,r,s⟩:=jK.1 h
     simp only[c,j9,jC]
     exact UF k (i+1) L1 L' w s (by rw[fK,fT 1 k];exact g) _ (f.putL r)
    |true=>
     simp only[q] at h
     cases e:oM L o.op with
     |false=>simp[e] at h
     |true=>
      simp only[e,cond_true] at h
      obtain⟨v,p,h⟩:=jK.1 h
      obtain⟨L1,r,s⟩:=jK.1 h
      simp only[c,jE]
      have next:=UF k (i+1) L1 L' w s (by rw[fK,fT 1 k];exact g) _ (f.putL r)
      rw[f.exec e]
      cases d:qO P (execOp (mQ L) o) with
      |none=>simp[d,JK] at p
      |some nx=>
       rw[xL d w]
       cases nx<;>simp[d,JK] at p
       case value u=>subst p;exact next
       case skip=>subst p;exact next
def zK(P:Program)(n:Nat)(ops:Array Oper)(k i:Nat)(L:bK)(ks:List Nat):Option (List (Option Value)):=(sO P n ops k i L).map fun L'=>ks.map (iB L')
def EM(d:Nat):bK->Bool
 |[]=>false
 |p::l=>Nat.beq p.1 d||EM d l
def wB(L new:bK):List Nat->Bool
 |[]=>true
 |d::l=>(EM d new||(iB L d).isNone)&&wB L new l
theorem qAm{d:Nat}:∀{l:bK},EM d l=true->∃v,iB l d=some v
 |[],h=>by simp[EM] at h
 |(k,v)::l,h=>by
  simp only[EM,fI] at h
  simp only[iB]
  cases hb:Nat.beq k d with
  |true=>exact⟨v,rfl⟩
  |false=>simp[hb] at h;exact qAm h
theorem wE{d:Nat}{v:Value}:∀{l:bK},iB l d=some v->(d,v)∈l
 |[],h=>by simp[iB] at h
 |(k,u)::l,h=>by
  simp only[iB] at h
  cases a:Nat.beq k d with
  |true=>simp[a] at h;subst h;have:=fD a;subst this;exact jL ..
  |false=>simp[a] at h;exact jO _ (wE h)
theorem XO{L new:bK}:∀{l:List Nat},wB L new l=true->∀d∈l,EM d new=true\/iB L d=none
 |[],_=>by simp
 |e::l,h=>by
  simp only[wB,jJ,fI,Option.isNone_iff_eq_none] at h
  intro d a
  rcases jI.1 a with rfl|a
  .exact h.1
  exact XO h.2 d a
theorem SB:∀(k i:Nat) (L L':bK),sO P n ops k i L=some L'->∀t,t∉vF ops k i->iB L' t=iB L t
 |0,i,L,L',h,t,_=>by simp[sO] at h;subst h;rfl
 |k+1,i,L,L',h,t,c=>by
  simp only[sO] at h
  cases g:ops[i]? with
  |none=>simp[g] at h
  |some o=>
   simp only[g] at h
   simp only[vF,g,j0,gI,not_or] at c
   have put:∀v L1,putL n o.dst v L=some L1->iB L1 t=iB L t:=by
    intro v L1 a
    cases e:o.dst with
    |none=>simp[putL,e] at a;subst a;rfl
    |some d=>
     simp only[putL,e] at a
     cases f:Nat.blt d n with
     |false=>simp[f] at a
     |true=>
      simp[f] at a;subst a
      have l:d≠t:=by rintro rfl;exact c.1 (by simp[e])
      have:Nat.beq d t=false:=by cases hq:Nat.beq d t<;>simp_all [Nat.beq_eq]
      simp[iB,this]
   cases l:nO ops L o.guard with
   |none=>simp[l] at h
   |some b=>
    cases b with
    |false=>
     simp only[l] at h
     obtain⟨L1,a,f⟩:=jK.1 h
     rw[SB k (i+1) L1 L' f t c.2,put _ _ a]
    |true=>
     simp only[l] at h
     cases e:oM L o.op with
     |false=>simp[e] at h
     |true=>
      simp only[e,cond_true] at h
      obtain⟨v,p,h⟩:=jK.1 h
      obtain⟨L1,a,f⟩:=jK.1 h
      rw[SB k (i+1) L1 L' f t c.2,put _ _ a]
theorem UP{i:Nat}{L:bK}{w:World}(k:Nat)(new:bK)(f:zK P n ops k i L (new.map (·.1))=some (new.map fun p=>some p.2))
  (o:wB L new (vF ops k i)=true) (h:WO P n ops Q (i+k) (new++L) w):WO P n ops Q i L w:=by
 simp only[zK,kA] at f
 obtain⟨L',g,s⟩:=f
 refine UF k i L L' w g ?_
 intro a r
 refine h a (r.sub ?_)
 intro t v b
 rw[qLk] at b
 cases hn:iB new t with
 |some u=>
  simp[hn] at b;subst b
  have e:=wE hn
  have:∀(l:bK),l.map (iB L'∘(·.1))=l.map (fun p=>some p.2)->∀p∈l,iB L' p.1=some p.2:=by
   intro l d p c
   induction l with
   |nil=>simp at c
   |cons q l x=>
    simp only[kJ,kL,Function.comp] at d
    rcases jI.1 c with rfl|c
    .exact d.1
    exact x (by simpa[Function.comp] using d.2) c
  exact this new (by simpa using s) (t,u) e
 |none=>
  simp[hn] at b
  by_cases hw:t∈vF ops k i
  .rcases XO o t hw with c|d
   .obtain⟨u,e⟩:=qAm c;rw[e] at hn;cases hn
   rw[d] at b;cases b
  rw[SB k i L L' g t hw];exact b
def dK(ops:Array Oper)(L:bK)(i:Nat):Option (Option Nat×Op):=
 match ops[i]? with
 |none=>none
 |some o=>match nO ops L o.guard with
  |some true=>bif oM L o.op then some (o.dst,o.op) else none
  |_=>none
theorem CU{L:bK}{i:Nat}{d:Option Nat}{op:Op}(h:dK ops L i=some (d,op)):
  ∃o,ops[i]? =some o/\o.dst=d/\o.op=op/\nO ops L o.guard=some true/\oM L o.op=true:=by
 unfold dK at h
 cases e:ops[i]? with
 |none=>simp[e] at h
 |some o=>
  simp only[e] at h
  cases a:nO ops L o.guard with
  |none=>simp[a] at h
  |some b=>
   cases b with
   |false=>simp[a] at h
   |true=>
    simp only[a] at h
    cases c:oM L o.op with
    |false=>simp[c] at h
    |true=>
     simp[c] at h
     exact⟨o,rfl,h.1,h.2,a,c⟩
def eL(P:Program)(n:Fr)(ops:Array Oper)(Q:Exit->Act->World->Prop)(i:Nat)(N:bK->World->Prop)(L:bK)(w:World):Prop:=
 ∀a,Fits n a L->nY P ops Q i (fun a' w'=>∃L',Fits n a' L'/\N L' w') a w
theorem qZ{i:Nat}{L:bK}{w:World}(hi:Nat.blt i ops.size=true)(h:eL P n ops Q i (fun L w=>WO P n ops Q (i+1) L w) L w):WO P n ops Q i L w:=by
 have hi':i<ops.size:=by simpa[Nat.blt_eq] using hi
 intro a d
 have e:ops[i]? =some ops[i]:=Array.getElem?_eq_getElem hi'
 rw[HR e]
 have fin:∀a' w',(∃L',Fits n a' L'/\WO P n ops Q (i+1) L' w')->xX P ops Q (List.range' (i+1) (ops.size-(i+1))) a' w':=fun a' w' ⟨L',b,c⟩=>c a' b
 exact NK fin (h a d)
section
variable {N:bK->World->Prop}
theorem mS{i d:Nat}{op:Op}{L:bK}{w w':World}{v:Value}(q:dK ops L i=some (some d,op))(p:Nat.blt d n=true)
  (c:∀o:Oper,o.op=op->(execOp (mQ L) o).run P w= .ok (.value v) w')
  (h:N ((d,v)::L) w'):eL P n ops Q i N L w:=by
 obtain⟨o,e,f,g,k,l⟩:=CU q
 intro a b
 unfold nY
 simp only[e,b.wanted k,jE]
 rw[b.exec l,c o g,Oper.uponIn_value,f]
 exact⟨_,b.put p v,h⟩
theorem zD{i:Nat}{op:Op}{L:bK}{w w':World}(l:dK ops L i=some (none,op))
  (c:∀o:Oper,o.op=op->(execOp (mQ L) o).run P w= .ok .skip w')
  (h:N L w'):eL P n ops Q i N L w:=by
 obtain⟨o,d,e,f,g,k⟩:=CU l
 intro a b
 unfold nY
 simp only[d,b.wanted g,jE]
 rw[b.exec k,c o f,Oper.uponIn_skip,e]
 exact⟨_,b,h⟩
theorem DC{i d:Nat}{op:Op}{L:bK}{w w':World}{v:Value}(q:dK ops L i=some (some d,op))(l:Nat.blt d n=true)
  (c:∀o:Oper,o.op=op->∃v' w',(execOp (mQ L) o).run P w= .ok (.value v') w'/\N ((d,v')::L) w'):eL P n ops Q i N L w:=by
 obtain⟨o,e,f,g,h,k⟩:=CU q
 obtain⟨v',w'',r,p⟩:=c o g
 intro a b
 unfold nY
 simp only[e,b.wanted h,jE]
 rw[b.exec k,r,Oper.uponIn_value,f]
 exact⟨_,b.put l v',p⟩
def tR(P:Program)(ops:Array Oper)(L:bK)(i:Nat):Option (Option Nat×Nat×Array Value):=
 match ops[i]? with
 |none=>none
 |some o=>match nO ops L o.guard with
  |some true=>bif oM L o.op then(match qO P (execOp (mQ L) o) with
   |some (.enter f args)=>some (o.dst,f,args)
   |_=>none) else none
  |_=>none
theorem YI{L:bK}{i f:Nat}{d:Option Nat}{args:Array Value}(h:tR P ops L i=some (d,f,args)):
  ∃o,ops[i]? =some o/\o.dst=d/\nO ops L o.guard=some true/\oM L o.op=true/\qO P (execOp (mQ L) o)=some (.enter f args):=by
 unfold tR at h
 cases e:ops[i]? with
 |none=>simp[e] at h
 |some o=>
  simp only[e] at h
  cases a:nO ops L o.guard with
  |none=>simp[a] at h
  |some b=>
   cases b with
   |false=>simp[a] at h
   |true=>
    simp only[a] at h
    cases c:oM L o.op with
    |false=>simp[c] at h
    |true=>
     simp only[c,cond_true] at h
     split at h
     .rename_i f' args' he
      simp only[jG,Prod.mk.injEq] at h
      obtain⟨g,rfl,rfl⟩:=h
      exact⟨o,rfl,g,a,c,he⟩
     cases h
theorem nN{i:Nat}{L:bK}{w:World}(d f:Nat)(args:Array Value)(q:tR P ops L i=some (some d,f,args))(k:Nat.blt d n=true)
  (h:Calls P f args w fun e w'=>∃v,e= .returned v/\N ((d,v)::L) w'):eL P n ops Q i N L w:=by
 obtain⟨o,c,g,r,p,l⟩:=YI q
 intro a b
 unfold nY
 simp only[c,b.wanted r,jE]
 rw[b.exec p,xL l w,Oper.uponIn_enter]
 refine⟨fun e=>by simp[Fence.wide] at e,CallsIn.mono (callsIn_wide.2 h) ?_⟩
 rintro e w' ⟨v,rfl,hk'⟩
 rw[g]
 exact⟨_,b.put k v,hk'⟩
end
theorem qEu{L:bK}{w:World}{i:Nat}(hi:ops.size=i)(h:∀a,Fits n a L->Q .normal a w):WO P n ops Q i L w:=by
 intro a b
 subst hi
 simp only[Nat.sub_self,List.range'_zero,xX]
 exact h a b
theorem qEl{i:Nat}{L:bK}{w:World}(L':bK)(d:L'.map (fun p=>iB L p.1)=L'.map fun p=>some p.2)(h:WO P n ops Q i L' w):WO P n ops Q i L w:=by
 intro a b
 refine h a (b.sub ?_)
 intro t v e
 have c:=wE e
 have:=(gX.1 d) (t,v) c
 exact this
end
def W(ρ:Option Nat)(P:Program)(n:Fr)(c:Code)(Q:Exit->Act->World->Prop)(L:bK)(w:World):Prop:=∀a,Fits n a L->c.wpIn (nM ρ) 0 P Q a w
def X(n:Fr)(Q:Exit->Act->World->Prop)(e:Exit)(L:bK)(w:World):Prop:=∀a,Fits n a L->Q e a w
section
variable {ρ:Option Nat} {P:Program} {n:Fr} {Q:Exit->Act->World->Prop} {L:bK} {w:World}
theorem aC{y:Code}(h:W ρ P n y Q L w):X n (Exit.then (fun a w=>y.wpIn (nM ρ) 0 P Q a w) Q) .normal L w:=h
theorem bG{K:Act->World->Prop}{id:Nat}(h:X n Q (.exit id) L w):X n (Exit.then K Q) (.exit id) L w:=h
theorem aU{K:Act->World->Prop}(h:X n Q .ret L w):X n (Exit.then K Q) .ret L w:=h
theorem bT{id:Nat}(h:X n Q .normal L w):X n (Exit.inBlock id Q) .normal L w:=h
theorem bN{id:Nat}(h:X n Q .ret L w):X n (Exit.inBlock id Q) .ret L w:=h
theorem cX{id:Nat}(h:X n Q .normal L w):X n (Exit.inBlock id Q) (.exit id) L w:=by
 intro a b;simp only[Exit.inBlock,jE];exact h a b
theorem uK{id id':Nat}(b:Nat.beq id' id=false)(h:X n Q (.exit id') L w):X n (Exit.inBlock id Q) (.exit id') L w:=by
 intro a c
 have:¬id'=id:=by rintro rfl;simp at b
 simp only[Exit.inBlock,if_neg this];exact h a c
theorem aF{x y:Code}(h:W ρ P n x (Exit.then (fun a w=>y.wpIn (nM ρ) 0 P Q a w) Q) L w):W ρ P n (.seq x y) Q L w:=fun a b=>wpIn_seq (h a b)
theorem aN(h:X n Q .normal L w):W ρ P n .skip Q L w:=fun a b=>wpIn_skip (h a b)
theorem aM(h:X n Q .ret L w):W ρ P n .ret Q L w:=fun a b=>wpIn_ret (h a b)
theorem cT{id:Nat}(h:X n Q (.exit id) L w):W ρ P n (.exit id) Q L w:=fun a b=>wpIn_exit (h a b)
theorem bB{id:Nat}{c:Code}(h:W ρ P n c (Exit.inBlock id Q) L w):W ρ P n (.block id c) Q L w:=fun a b=>wpIn_block (h a b)
theorem vZ{id:Nat}{ops:Array Oper}(c:DH ρ ops=true)(h:WO P n ops Q 0 L w):W ρ P n (.region id ops false) Q L w:=by
 intro a b
 refine wpIn_region (qDp c _ _ _ ?_)
 have:=h a b
 simpa[List.range_eq_range'] using this
theorem aY{id:Nat}{ops:Array Oper}(h:WO P n ops Q 0 L w):W none P n (.region id ops false) Q L w:=vZ rfl h
theorem pI{c:Operand}{x y:Code}(b:Bool)(e:bV L c=some (.bool b))(g:b=true->W ρ P n x Q L w)(f:b=false->W ρ P n y Q L w):W ρ P n (.cond c x y) Q L w:=
 fun a d=>wpIn_cond_split (d.ev e) (fun h=>g h a d) (fun h=>f h a d)
theorem qVd{c:Code}(L':bK)(d:L'.map (fun p=>iB L p.1)=L'.map fun p=>some p.2)(h:W ρ P n c Q L' w):W ρ P n c Q L w:=by
 intro a b
 refine h a (b.sub ?_)
 intro t v e
 exact(gX.1 d) (t,v) (wE e)
theorem OP{e:Exit}(L':bK)(c:L'.map (fun p=>iB L p.1)=L'.map fun p=>some p.2)(h:X n Q e L' w):X n Q e L w:=by
 intro a b
 refine h a (b.sub ?_)
 intro t v d
 exact(gX.1 c) (t,v) (wE d)
theorem qUf{c:Code}(I:Nat->bK->World->Prop)(k:Nat)(f:I k L w)
  (round:∀k L w,I k L w->W ρ P n c (Exit.then (fun a' w'=>∃k' L',k'<k/\Fits n a' L'/\I k' L' w') Q) L w):W ρ P n (.loop c) Q L w:=by
 intro a b
 refine wpIn_loop_ghost (fun k a w=>∃L,Fits n a L/\I k L w) k ⟨L,b,f⟩ ?_
 rintro k a w ⟨L,b,o⟩
 refine wpIn_mono (round k L w o a b) ?_
 intro e a' w' d
 cases e with
 |normal=>obtain⟨k',L',g,h,l⟩:=d;exact⟨k',g,L',h,l⟩
 |_=>exact d
theorem qRj{k:Nat}{I:Nat->bK->World->Prop}(k':Nat)(b:k'<k)(h:I k' L w):X n (Exit.then (fun a' w'=>∃k' L',k'<k/\Fits n a' L'/\I k' L' w') Q) .normal L w:=
 fun _ a=>⟨k',L,b,a,h⟩
theorem qTf{f:FuncId}{fn:Func}{c:Code}{args:Array Value}{R:Ending->World->Prop}(e:P.funcs[f]? =some fn)(d:fn.body=some c){k:Nat}(g:fn.ntmps=k)(L:bK)
  (b:L.map (fun p=>(args[p.1]?))=L.map fun p=>some p.2) (a:Nat.ble args.size k=true) (h:W none P ⟨k,[]⟩ c (bodyPost P fn R) L w):Calls P f args w R:=by
 refine calls_of_wp e d (wpIn_wide.1 (h _ ⟨?_,rfl,?_⟩))
 .subst g
  have:args.size<=fn.ntmps:=kS a
  simp only[fW,fX];omega
 intro t v n
 have:=(gX.1 b) (t,v) (wE n)
 have l:t<args.size:=(Array.getElem?_eq_some_iff.1 this).1
 simp only[Array.getElem?_append,l,jE]
 exact this
end
attribute [irreducible] xX
end
section
def qFv:List (Nat×Array Value):=[]
structure Mem where
 cell:Nat->Nat->Option Value
 obj:Nat->Option Obj
 wd:World
 ht:∀p∈qFv,∃t f,obj p.1=some (.cells p.2 t f)
def qRg:Bool:=true
def Step(w w':World):Prop:=(w'.os=w.os/\w'.output=w.output)/\w'.tape=w.tape/\(qRg=true->w.drawn<=w'.drawn)
theorem mP{p:Prop}(h:p:=by first|exact fun _=>jP _|exact fun _=>Nat.le_succ _):p:=h
theorem Step.refl(w:World):Step w w:=⟨⟨rfl,rfl⟩,rfl,mP⟩
theorem Step.trans{c d e:World}(a:Step c d)(b:Step d e):Step c e:=⟨⟨b.1.1.trans a.1.1,b.1.2.trans a.1.2⟩,b.2.1.trans a.2.1,fun h=>kX (a.2.2 h) (b.2.2 h)⟩
def Mem.le(m m':Mem):Prop:=(∀b o v,m.cell b o=some v->m'.cell b o=some v)/\(∀b x,m.obj b=some x->m'.obj b=some x)/\m.wd=m'.wd
theorem Mem.le_refl(m:Mem):m.le m:=⟨fun _ _ _ h=>h,fun _ _ h=>h,rfl⟩
theorem Mem.le_trans{c d e:Mem}(a:c.le d)(b:d.le e):c.le e:=⟨fun _ _ _ h=>b.1 _ _ _ (a.1 _ _ _ h),fun _ _ h=>b.2.1 _ _ (a.2.1 _ _ h),a.2.2.trans b.2.2⟩
def Inv(m:Mem)(w:World):Prop:=
 (∀b o v,m.cell b o=some v->∃c e f,w.heap[b]? =some (.cells c e f)/\c[o]? =some v)/\(∀b x,m.obj b=some x->w.heap[b]? =some x)/\Step m.wd w
inductive Piece where
 |blk (b:Nat) (o:Obj)
 |room (a:Option Addr) (n cap:Nat) (e:TypeId) (sz:Nat)
def Piece.block:Piece->Option Nat
 | .blk b _=>some b
 | .room a _ _ _ _=>a.map (·.block)
def VD(m:Mem)(b:Nat):Prop:=(∀o,m.cell b o=none)/\m.obj b=none
def Piece.holds(m:Mem)(w:World):Piece->Prop
 | .blk b o=>w.heap[b]? =some o/\VD m b
 | .room none n cap _ _=>n=0/\cap=0
 | .room (some p) n cap e sz=>p.off=0/\p.spot=none/\n<=cap/\cap<=maxLen/\(∃cur,w.heap[p.block]? =some (.cells cur e (0,0))/\cur.size=cap*sz)/\
  (∀o,n*sz<=o->m.cell p.block o=none)/\m.obj p.block=none
def St(m:Mem)(own:List Piece)(w:World):Prop:=Inv m w/\(∀p∈own,p.holds m w)/\(own.filterMap Piece.block).Nodup
theorem sE{w:World}{b:Nat}{x:Obj}(h:w.heap[b]? =some x):b<w.heap.size:=(Array.getElem?_eq_some_iff.1 h).1
theorem Piece.holds_lt{m:Mem}{w:World}{p:Piece}(h:p.holds m w){b:Nat}(d:p.block=some b):b<w.heap.size:=by
 cases p with
 |blk c o=>simp[Piece.block] at d;subst d;exact sE h.1
 |room a n cap e sz=>
  cases a with
  |none=>simp[Piece.block] at d
  |some q=>simp[Piece.block] at d;subst d;obtain⟨_,_,_,_,⟨cur,f,_⟩,_⟩:=h;exact sE f
theorem St.inv{m:Mem}{own:List Piece}{w:World}(h:St m own w):Inv m w:=h.1
theorem St.fresh_free{m:Mem}{own:List Piece}{w:World}(h:St m own w):VD m w.heap.size:=by
 constructor
 .intro o
  cases hc:m.cell w.heap.size o with
  |none=>rfl
  |some v=>
   obtain⟨c,e,f,a,_⟩:=h.1.1 _ _ _ hc
   have:=sE a;omega
 cases hc:m.obj w.heap.size with
 |none=>rfl
 |some x=>have:=sE (h.1.2.1 _ _ hc);omega
theorem Inv.keep{m:Mem}{w w':World}(h:Inv m w)(n:Step w w')(k:∀b,(∃x,w.heap[b]? =some x)->¬VD m b->w'.heap[b]? =w.heap[b]?):Inv m w':=by
 refine⟨?_,?_,h.2.2.trans n⟩
 .intro b o v g
  obtain⟨c,e,f,a,l⟩:=h.1 b o v g
  exact⟨c,e,f,by rw[k b ⟨_,a⟩ (fun d=>by rw[d.1 o] at g;cases g)];exact a,l⟩
 intro b x g
 have a:=h.2.1 b x g
 rw[k b ⟨_,a⟩ (fun d=>by rw[d.2] at g;cases g)];exact a
theorem Piece.holds_keep{m:Mem}{w w':World}{p:Piece}(h:p.holds m w)(d:∀b,p.block=some b->w'.heap[b]? =w.heap[b]?):p.holds m w':=by
 cases p with
 |blk c o=>exact⟨by rw[d c rfl];exact h.1,h.2⟩
 |room a n cap e sz=>
  cases a with
  |none=>exact h
  |some q=>
   obtain⟨f,g,k,l,⟨cur,r,s⟩,t⟩:=h
   exact⟨f,g,k,l,⟨cur,by rw[d _ rfl];exact r,s⟩,t⟩
theorem St.grow{m:Mem}{own:List Piece}{w w':World}(h:St m own w)(e:Step w w')(a:∀b,b<w.heap.size->w'.heap[b]? =w.heap[b]?):St m own w':=
 ⟨h.1.keep e fun b ⟨_,f⟩ _=>a b (sE f),fun p c=>Piece.holds_keep (h.2.1 p c) fun b d=>a b (Piece.holds_lt (h.2.1 p c) d),h.2.2⟩
theorem HQ{own:List Piece}{b:Nat}:b∈own.filterMap Piece.block↔∃p∈own,p.block=some b:=by simp[List.mem_filterMap]
theorem St.block_lt{m:Mem}{own:List Piece}{w:World}(h:St m own w){b:Nat}(c:b∈own.filterMap Piece.block):b<w.heap.size:=by
 obtain⟨p,d,a⟩:=HQ.1 c
 exact Piece.holds_lt (h.2.1 p d) a
theorem St.alloc{m:Mem}{own:List Piece}{w w':World}(h:St m own w){o:Obj}(g:Step w w')(d:w'.heap=w.heap.push o):St m (.blk w.heap.size o::own) w':=by
 have c:=h.grow (w':=w') g (fun b e=>by rw[d,Array.getElem?_push];simp[Nat.ne_of_lt e])
 refine⟨c.1,?_,?_⟩
 .intro p a
  rcases jI.1 a with rfl|a
  .exact⟨by rw[d];simp,h.fresh_free⟩
  exact c.2.1 p a
 have a:List.filterMap Piece.block (.blk w.heap.size o::own)=w.heap.size::own.filterMap Piece.block:=rfl
 rw[a,gY]
 exact⟨fun f=>by have:=h.block_lt f;omega,h.2.2⟩
theorem St.tail{m:Mem}{p:Piece}{own:List Piece}{w:World}(h:St m (p::own) w):St m own w:=by
 refine⟨h.1,fun q c=>h.2.1 q (jO _ c),?_⟩
 have:=h.2.2
 cases a:p.block with
 |none=>simpa[fM,a] using this
 |some b=>simp only[fM,a,gY] at this;exact this.2
theorem St.head{m:Mem}{p:Piece}{own:List Piece}{w:World}(h:St m (p::own) w):p.holds m w:=h.2.1 p (jL ..)
theorem St.head_ne{m:Mem}{p:Piece}{own:List Piece}{w:World}(h:St m (p::own) w){b:Nat}(a:p.block=some b):b∉own.filterMap Piece.block:=by
 have:=h.2.2
 simp only[fM,a,gY] at this
 exact this.1
theorem St.cons{m:Mem}{p:Piece}{own:List Piece}{w:World}(h:St m own w)(e:p.holds m w)(d:∀b,p.block=some b->b∉own.filterMap Piece.block):St m (p::own) w:=by
 refine⟨h.1,fun q c=> ?_,?_⟩
 .rcases jI.1 c with rfl|c
  .exact e
  exact h.2.1 q c
 cases a:p.block with
 |none=>simpa[fM,a] using h.2.2
 |some b=>simp only[fM,a,gY];exact⟨d b a,h.2.2⟩
theorem St.perm{m:Mem}{own own':List Piece}{w:World}(h:St m own w)(a:own.Perm own'):St m own' w:=
 ⟨h.1,fun p b=>h.2.1 p (a.mem_iff.2 b),(a.filterMap _).nodup_iff.1 h.2.2⟩
theorem St.front1{m:Mem}{a b:Piece}{own:List Piece}{w:World}(h:St m (a::b::own) w):St m (b::a::own) w:=h.perm (.swap b a own)
theorem St.front2{m:Mem}{a b c:Piece}{own:List Piece}{w:World}(h:St m (a::b::c::own) w):St m (c::a::b::own) w:=
 h.perm ((List.Perm.cons a (.swap c b own)).trans (.swap c a _))
theorem St.front3{m:Mem}{a b c d:Piece}{own:List Piece}{w:World}(h:St m (a::b::c::d::own) w):St m (d::a::b::c::own) w:=
 h.perm (((List.Perm.cons a ((List.Perm.cons b (.swap d c own)).trans (.swap d b _)))).trans (.swap d a _))
theorem St.front4{m:Mem}{a b c d e:Piece}{own:List Piece}{w:World}(h:St m (a::b::c::d::e::own) w):St m (e::a::b::c::d::own) w:=by
 refine h.perm ?_
 have:List.Perm (b::c::d::e::own) (e::b::c::d::own):=(List.Perm.cons b ((List.Perm.cons c (.swap e d own)).trans (.swap e c _))).trans (.swap e b _)
 exact(List.Perm.cons a this).trans (.swap e a _)
theorem St.front5{m:Mem}{p0 p1 p2 p3 p4 p5:Piece}{own:List Piece}{w:World}(h:St m (p0::p1::p2::p3::p4::p5::own) w):St m (p5::p0::p1::p2::p3::p4::own) w:=
 h.perm (gA (a:=p5) (l₁:=[p0,p1,p2,p3,p4]) (l₂:=own))
theorem St.front6{m:Mem}{p0 p1 p2 p3 p4 p5 p6:Piece}{own:List Piece}{w:World}(h:St m (p0::p1::p2::p3::p4::p5::p6::own) w):St m (p6::p0::p1::p2::p3::p4::p5::own) w:=
 h.perm (gA (a:=p6) (l₁:=[p0,p1,p2,p3,p4,p5]) (l₂:=own))
theorem St.front7{m:Mem}{p0 p1 p2 p3 p4 p5 p6 p7:Piece}{own:List Piece}{w:World}(h:St m (p0::p1::p2::p3::p4::p5::p6::p7::own) w):St m (p7::p0::p1::p2::p3::p4::p5::p6::own) w:=
 h.perm (gA (a:=p7) (l₁:=[p0,p1,p2,p3,p4,p5,p6]) (l₂:=own))
theorem St.front8{m:Mem}{p0 p1 p2 p3 p4 p5 p6 p7 p8:Piece}{own:List Piece}{w:World}(h:St m (p0::p1::p2::p3::p4::p5::p6::p7::p8::own) w):St m (p8::p0::p1::p2::p3::p4::p5::p6::p7::own) w:=
 h.perm (gA (a:=p8) (l₁:=[p0,p1,p2,p3,p4,p5,p6,p7]) (l₂:=own))
theorem St.front9{m:Mem}{p0 p1 p2 p3 p4 p5 p6 p7 p8 p9:Piece}{own:List Piece}{w:World}(h:St m (p0::p1::p2::p3::p4::p5::p6::p7::p8::p9::own) w):St m (p9::p0::p1::p2::p3::p4::p5::p6::p7::p8::own) w:=
 h.perm (gA (a:=p9) (l₁:=[p0,p1,p2,p3,p4,p5,p6,p7,p8]) (l₂:=own))
theorem St.front10{m:Mem}{p0 p1 p2 p3 p4 p5 p6 p7 p8 p9 p10:Piece}{own:List Piece}{w:World}(h:St m (p0::p1::p2::p3::p4::p5::p6::p7::p8::p9::p10::own) w):St m (p10::p0::p1::p2::p3::p4::p5::p6::p7::p8::p9::own) w:=
 h.perm (gA (a:=p10) (l₁:=[p0,p1,p2,p3,p4,p5,p6,p7,p8,p9]) (l₂:=own))
theorem St.front11{m:Mem}{p0 p1 p2 p3 p4 p5 p6 p7 p8 p9 p10 p11:Piece}{own:List Piece}{w:World}(h:St m (p0::p1::p2::p3::p4::p5::p6::p7::p8::p9::p10::p11::own) w):St m (p11::p0::p1::p2::p3::p4::p5::p6::p7::p8::p9::p10::own) w:=
 h.perm (gA (a:=p11) (l₁:=[p0,p1,p2,p3,p4,p5,p6,p7,p8,p9,p10]) (l₂:=own))
theorem St.front12{m:Mem}{p0 p1 p2 p3 p4 p5 p6 p7 p8 p9 p10 p11 p12:Piece}{own:List Piece}{w:World}(h:St m (p0::p1::p2::p3::p4::p5::p6::p7::p8::p9::p10::p11::p12::own) w):St m (p12::p0::p1::p2::p3::p4::p5::p6::p7::p8::p9::p10::p11::own) w:=
 h.perm (gA (a:=p12) (l₁:=[p0,p1,p2,p3,p4,p5,p6,p7,p8,p9,p10,p11]) (l₂:=own))
theorem St.set{m:Mem}{own:List Piece}{w w':World}{b:Nat}{o o':Obj}(h:St m (.blk b o::own) w)(s:Step w w')(q:w'.heap[b]? =some o')
  (n:∀k,k<w.heap.size->k≠b->w'.heap[k]? =w.heap[k]?):St m (.blk b o'::own) w':=by
 have l:=h.head
 have f:=h.head_ne (b:=b) rfl
 have a:=h.tail
 refine St.cons ⟨a.1.keep s fun k ⟨x,t⟩ r=>n k (sE t) (fun e=>r (e▸l.2)),fun p g=>Piece.holds_keep (a.2.1 p g) fun k c=>n k (Piece.holds_lt (a.2.1 p g) c) (fun e=>f (HQ.2 ⟨p,g,e▸c⟩)),a.2.2⟩ ⟨q,l.2⟩ ?_
 intro k d;simp only[Piece.block,jG] at d;subst d;exact f
def Mem.addCells(m:Mem)(b:Nat)(f:Nat->Option Value):Mem:={m with cell:=fun k o=>if k=b then(match m.cell k o with|some v=>some v|none=>f o) else m.cell k o}
theorem Mem.le_addCells(m:Mem)(b:Nat)(f:Nat->Option Value):m.le (m.addCells b f):=by
 refine⟨fun k o v h=> ?_,fun _ _ h=>h,rfl⟩
 simp only[addCells]
 split
 .simp[h]
 exact h
theorem Piece.holds_addCells{m:Mem}{w:World}{p:Piece}{b:Nat}{f:Nat->Option Value}(h:p.holds m w)(d:p.block≠some b):p.holds (m.addCells b f) w:=by
 cases p with
 |blk c o=>
  have:c≠b:=fun e=>d (by simp[Piece.block,e])
  exact⟨h.1,fun o=>by simp[Mem.addCells,this,h.2.1 o],h.2.2⟩
 |room a n cap e sz=>
  cases a with
  |none=>exact h
  |some q=>
   have:q.block≠b:=fun e=>d (by simp[Piece.block,e])
   obtain⟨g,k,l,r,s,t,u⟩:=h
   exact⟨g,k,l,r,s,fun o v=>by simp[Mem.addCells,this,t o v],u⟩
theorem St.addCells{m:Mem}{own:List Piece}{w:World}(h:St m own w){b:Nat}{f:Nat->Option Value}(l:b∉own.filterMap Piece.block)
  (n:∀o v,f o=some v->∃c e fr,w.heap[b]? =some (.cells c e fr)/\c[o]? =some v):St (m.addCells b f) own w:=by
 refine⟨⟨?_,h.1.2⟩,fun p g=>Piece.holds_addCells (h.2.1 p g) fun e=>l (HQ.2 ⟨p,g,e⟩),h.2.2⟩
 intro k o v a
 simp only[Mem.addCells] at a
 split at a
 .rename_i hk;subst hk
  cases d:m.cell k o with
  |some u=>simp[d] at a;subst a;exact h.1.1 _ _ _ d
  |none=>simp[d] at a;exact n o v a
 exact h.1.1 _ _ _ a
def MRow(m:Mem)(b o:Nat)(cs:List Value):Prop:=∀j v,cs[j]? =some v->m.cell b (o+j)=some v
theorem MRow.mono{m m':Mem}{b o:Nat}{cs:List Value}(h:MRow m b o cs)(a:m.le m'):MRow m' b o cs:=fun j v c=>a.1 _ _ _ (h j v c)
theorem MRow.drop{m:Mem}{b o:Nat}{cs:List Value}(h:MRow m b o cs)(k:Nat):MRow m b (o+k) (cs.drop k):=by
 intro j v a
 have:=h (k+j) v (by simpa[List.getElem?_drop] using a)
 rw[fK];exact this
structure Codec(α:Type) where
 sz:Nat
 pos:0<sz
 rep:Mem->α->List Value->Prop
 len:∀m x cs,rep m x cs->cs.length=sz
 one:∀m x cs,rep m x cs->∀v∈cs,v.oneCell'=true
 mono:∀m m' x cs,m.le m'->rep m x cs->rep m' x cs
def RepS{α:Type}(c:Codec α)(m:Mem)(a:Option Addr)(cap:Nat)(l:List α):Prop:=
 l.length<=cap/\cap<=maxLen/\match a with
  |none=>cap=0
  |some p=>(p.spot=none\/l=[])/\∀i x,l[i]? =some x->∃cs,c.rep m x cs/\MRow m p.block (p.off+i*c.sz) cs
theorem RepS.mono{α:Type}{c:Codec α}{m m':Mem}{a:Option Addr}{cap:Nat}{l:List α}(h:RepS c m a cap l)(b:m.le m'):RepS c m' a cap l:=by
 refine⟨h.1,h.2.1,?_⟩
 cases a with
 |none=>exact h.2.2
 |some p=>
  refine⟨h.2.2.1,fun i x f=> ?_⟩
  obtain⟨cs,d,e⟩:=h.2.2.2 i x f
  exact⟨cs,c.mono _ _ _ _ b d,e.mono b⟩
theorem RepS.nil{α:Type}(c:Codec α)(m:Mem):RepS c m none 0 []:=⟨jP _,kG _,rfl⟩
theorem RepS.cells{α:Type}{c:Codec α}{m:Mem}{p:Addr}{cap:Nat}{l:List α}(h:RepS c m (some p) cap l):
  ∃cs,cs.length=l.length*c.sz/\(∀v∈cs,v.oneCell'=true)/\MRow m p.block p.off cs/\∀i x,l[i]? =some x->c.rep m x ((cs.drop (i*c.sz)).take c.sz):=by
 have key:∀(l:List α) (o:Nat),(∀i x,l[i]? =some x->∃cs,c.rep m x cs/\MRow m p.block (o+i*c.sz) cs)->
   ∃cs,cs.length=l.length*c.sz/\(∀v∈cs,v.oneCell'=true)/\MRow m p.block o cs/\∀i x,l[i]? =some x->c.rep m x ((cs.drop (i*c.sz)).take c.sz):=by
  intro l
  induction l with
  |nil=>intro o _;exact⟨[],by simp,by simp,fun j v h=>by simp at h,fun i x h=>by simp at h⟩
  |cons y l A=>
   intro o h
   obtain⟨n,q,z⟩:=h 0 y rfl
   have f:=c.len _ _ _ q
   obtain⟨k,r,s,t,u⟩:=A (o+c.sz) (fun i x g=>by
    obtain⟨cs,a,b⟩:=h (i+1) x (by simpa using g)
    exact⟨cs,a,by rw[kH,hD,fT (i*c.sz),<-fK] at b;exact b⟩)
   refine⟨n++k,by simp[f,r,kH,fT],?_,?_,?_⟩
   .intro v d
    rcases gI.1 d with d|d
    .exact c.one _ _ _ q v d
    exact s v d
   .intro j v d
    rw[List.getElem?_append] at d
    split at d
    .simpa using z j v d
    rename_i hj
    have:=t _ v d
    rw[f] at this hj
    have e:o+c.sz+(j-c.sz)=o+j:=by omega
    rw[e] at this;exact this
   intro i x g
   cases i with
   |zero=>simp at g;subst g;simp[f▸List.take_left (l₁:=n) (l₂:=k)];exact q
   |succ i=>
    have:=u i x (by simpa using g)
    have e:(n++k).drop ((i+1)*c.sz)=k.drop (i*c.sz):=by
     rw[fZ,jQ (by rw[f,kH];omega),jW,f,kH,hD,hU]
    rw[e];exact this
 exact key l p.off (h.2.2.2)
def vY(P:Program)(t:TypeId):Option (TypeId×Nat×Nat×Nat):=
 match P.underlying t with
 |some (.slice e)=>match P.info? e with
  |some i=>match i.zero with
   |some z=>some (e,i.size,i.bytes,z.cells.size)
   |none=>none
  |none=>none
 |_=>none
theorem QH{P:Program}{t e sz by_ zs:Nat}(h:vY P t=some (e,sz,by_,zs)):
  P.underlying t=some (.slice e)/\∃i z,P.info? e=some i/\i.zero=some z/\i.size=sz/\i.bytes=by_/\z.cells.size=zs:=by
 unfold vY at h
 split at h
 .rename_i e' he
  split at h
  .rename_i i hi
   split at h
   .rename_i z hz
    simp only[jG,Prod.mk.injEq] at h
    obtain⟨rfl,a,b,c⟩:=h
    exact⟨he,i,z,hi,hz,a,b,c⟩
   cases h
  cases h
 cases h
def wJ(P:Program)(u e:TypeId):Prop:=P.underlying u=some (.slice e)\/P.underlying u=some .string
theorem xJ(g o j:Nat):(⟨g,o,none⟩:Addr).add j=⟨g,o+j,none⟩:=by unfold Addr.add;split<;>simp_all
theorem CW{p:Addr}(a:p.spot=none)(j:Nat):p.add j=⟨p.block,p.off+j,none⟩:=by
 obtain⟨b,o,s⟩:=p
 simp only at a;subst a
 exact xJ b o j
section
variable {P:Program}
def JP(P:Program)(w:World)(sz:Nat)(x:Value)(n:Nat)(news:List Value):Prop:=
 (Builtin.lenOf x).run P w= .ok n w/\(Builtin.firstCells sz n x).run P w= .ok news.toArray w/\news.length=n*sz/\∀v∈news,v.oneCell'=true
theorem XC(w:World)(t u ty e:TypeId)(i:TypeInfo)(p:P.underlying t=some (.slice e))(q:wJ P u e)(hi:P.info? e=some i){x:Value}{n:Nat}{news:List Value}
  (f:JP P w i.size x n news) (g sLen sCap:Nat) (cur:Array Value) (o:w.heap[g]? =some (.cells cur e (0,0))) (a:sLen+n<=sCap) (d:sLen*i.size+news.length<=cur.size):
  (Builtin.append_ #[t,u] ty #[.slice (some ⟨g,0,none⟩) sLen sCap,x]).run P w=
   .ok (.slice (some ⟨g,0,none⟩) (sLen+n) sCap) (w.setRow g (cur.toList.take (sLen*i.size)++news++cur.toList.drop (sLen*i.size+news.length)).toArray):=by
 obtain⟨h,k,r,l⟩:=f
 have c:=run_storeCells_at P g (sLen*i.size) e news 0 cur w o (by simpa using d) l
 simp only[gU] at c
 rcases q with b|b<;>simp[Builtin.append_,run_underlying p,run_underlying b,sizeOf,typeInfo,hi,h,a,k,xJ,c]
theorem WY(w:World)(t u ty e:TypeId)(i:TypeInfo)(f:P.underlying t=some (.slice e))(g:wJ P u e)(hi:P.info? e=some i){x:Value}{news:List Value}
  (b:JP P w i.size x 0 news):(Builtin.append_ #[t,u] ty #[.slice none 0 0,x]).run P w= .ok (.slice none 0 0) w:=by
 obtain⟨c,d,h,k⟩:=b
 rcases g with a|a<;>simp[Builtin.append_,run_underlying f,run_underlying a,sizeOf,typeInfo,hi,c,d]
theorem WZ(w:World)(t u ty e:TypeId)(i:TypeInfo)(z:Value)(s:P.underlying t=some (.slice e))(v:wJ P u e)(hi:P.info? e=some i)(y:i.zero=some z){x:Value}{n:Nat}{news:List Value}
  (f:JP P w i.size x n news) (base:Option Addr) (sLen sCap:Nat) (olds:List Value)
  (d:∀w':World,Step w w'->w'.heap=w.heap->(Builtin.firstCells i.size sLen (.slice base sLen sCap)).run P w'= .ok olds.toArray w')
  (hsrc':∀w':World,Step w w'->w'.heap=w.heap->(Builtin.firstCells i.size n x).run P w'= .ok news.toArray w')
  (o:sCap<sLen+n) (k:(sLen+n)*i.bytes<=140737488355328) (g:sLen+n<=maxLen):
  (Builtin.append_ #[t,u] ty #[.slice base sLen sCap,x]).run P w=
   .ok (.slice (some ⟨w.heap.size,0,none⟩) (sLen+n) (grownCap w (sLen+n) sCap e))
    (w.drew.alloc (.cells ((olds++news).toArray++Builtin.zeroCells z.cells (grownCap w (sLen+n) sCap e-(sLen+n))) e)):=by
 obtain⟨h,A,B,D⟩:=f
 have p:¬(sLen+n<=sCap):=by omega
 have h63':¬(9223372036854775807<(sLen:Int)+(n:Int)):=by simp only[maxLen] at g;omega
 have l:=growslice_fits (need:=sLen+n) (old:=sCap) (bytes:=i.bytes) o k
 have hfit':¬(281474976710656<Builtin.nextslicecap (sLen+n) sCap*i.bytes):=by omega
 have c:IntKind.i64.max=9223372036854775807:=by decide
 have q:=d w.drew ⟨⟨rfl,rfl⟩,rfl,mP⟩ rfl
 have r:=hsrc' w.drew ⟨⟨rfl,rfl⟩,rfl,mP⟩ rfl
 have a:(Question.appendCap (sLen+n) sCap e).forced=false:=rfl
 rcases v with b|b<;>
  simp[Builtin.append_,run_underlying s,run_underlying b,sizeOf,typeInfo,zeroValue,hi,y,h,p,h63',hfit',c,a,q,r,newRow,grownCap]<;>(congr 2;apply Array.ext';simp)
def eM{α:Type}(by_:Nat)(l k:List α):Option (List α):=if(l.length+k.length)*by_<=140737488355328/\l.length+k.length<=maxLen then some (l++k) else none
theorem RepS.of_cells{α:Type}{c:Codec α}{m:Mem}{b cap:Nat}{l:List α}{cs:List Value}(d:l.length<=cap)(e:cap<=maxLen)
  (f:∀i x,l[i]? =some x->c.rep m x ((cs.drop (i*c.sz)).take c.sz)) (g:MRow m b 0 cs):RepS c m (some ⟨b,0,none⟩) cap l:=by
 refine⟨d,e,.inl rfl,fun i x h=>⟨_,f i x h,?_⟩⟩
 intro j v a
 rw[List.getElem?_take] at a
 split at a
 .rw[List.getElem?_drop] at a
  have:=g _ v a
  simp only[kW] at this ⊢
  exact this
 cases a
theorem RepS.cellsA{α:Type}{c:Codec α}{m:Mem}{a:Option Addr}{cap:Nat}{l:List α}(h:RepS c m a cap l):
  ∃cs,cs.length=l.length*c.sz/\(∀v∈cs,v.oneCell'=true)/\(∀p,a=some p->MRow m p.block p.off cs)/\∀i x,l[i]? =some x->c.rep m x ((cs.drop (i*c.sz)).take c.sz):=by
 cases a with
 |none=>
  obtain⟨d,_,b⟩:=h
  have:l=[]:=jX (by simp only at b;omega)
  subst this
  exact⟨[],by simp,by simp,by simp,by simp⟩
 |some p=>
  obtain⟨cs,d,e,b,f⟩:=h.cells
  exact⟨cs,d,e,fun q g=>by cases g;exact b,f⟩
theorem Inv.cell{m:Mem}{w:World}(h:Inv m w){b o:Nat}{v:Value}(g:m.cell b o=some v):w.cell? ⟨b,o,none⟩=some v:=by
 obtain⟨c,e,f,a,d⟩:=h.1 b o v g
 simp[World.cell?,a,d]
theorem qCb{m:Mem}{w:World}(hi:Inv m w){a:Option Addr}{n cap sz:Nat}{cs:List Value}(f:cs.length=n*sz)(g:∀p,a=some p->(p.spot=none\/cs=[])/\MRow m p.block p.off cs)(e:a=none->cs=[]):
  (Builtin.firstCells sz n (.slice a n cap)).run P w= .ok cs.toArray w:=by
 cases a with
 |none=>rw[e rfl];simp[Builtin.firstCells]
 |some p=>
  obtain⟨b,d⟩:=g p rfl
  exact run_firstCells_some w sz n p n cap cs f fun j v c=>by
   rcases b with b|b
   .rw[CW b];exact hi.cell (d j v c)
   subst b;simp at c
theorem RepS.none_nil{α:Type}{c:Codec α}{m:Mem}{cap:Nat}{l:List α}(h:RepS c m none cap l):l=[]/\cap=0:=by
 obtain⟨b,_,a⟩:=h
 simp only at a
 exact⟨jX aa,a⟩
theorem RepS.spot{α:Type}{c:Codec α}{m:Mem}{p:Addr}{cap:Nat}{l:List α}(h:RepS c m (some p) cap l)(a:l≠[]):p.spot=none:=h.2.2.1.resolve_right a
def DV{α:Type}(P:Program)(c:Codec α)(m:Mem)(x:Value)(k:List α):Prop:=
 ∃cs,(∀w:World,Inv m w->JP P w c.sz x k.length cs)/\(∀i y,k[i]? =some y->c.rep m y ((cs.drop (i*c.sz)).take c.sz))
theorem RepS.src{α:Type}{c:Codec α}{m:Mem}{a:Option Addr}{cap:Nat}{l:List α}(h:RepS c m a cap l):DV P c m (.slice a l.length cap) l:=by
 obtain⟨cs,b,d,f,g⟩:=h.cellsA
 refine⟨cs,fun w hi=>⟨by simp[Builtin.lenOf],qCb hi b (fun p n=> ?_) (fun k=> ?_),b,d⟩,g⟩
 .subst n;exact⟨h.2.2.1.imp id (fun e=>by subst e;exact jX (by simpa using b)),f p rfl⟩
 subst k;obtain⟨rfl,rfl⟩:=h.none_nil;exact jX (by simpa using b)
theorem qQk{α:Type}{c:Codec α}{m:Mem}{l k:List α}{a b:List Value}(f:a.length=l.length*c.sz)
  (g:∀i x,l[i]? =some x->c.rep m x ((a.drop (i*c.sz)).take c.sz)) (h:∀i x,k[i]? =some x->c.rep m x ((b.drop (i*c.sz)).take c.sz)):
  ∀i x,(l++k)[i]? =some x->c.rep m x (((a++b).drop (i*c.sz)).take c.sz):=by
 intro i x d
 rw[List.getElem?_append] at d
 split at d
 .rename_i hi
  have e:i*c.sz+c.sz<=a.length:=by
   rw[f]
   calc i*c.sz+c.sz=(i+1)*c.sz:=by rw[kH,hD]
    _<=l.length*c.sz:=kN _ hi
  have:((a++b).drop (i*c.sz)).take c.sz=(a.drop (i*c.sz)).take c.sz:=by
   rw[gC aa,kO ai]
  rw[this];exact g i x d
 rename_i hi
 have e:a.length<=i*c.sz:=by rw[f];exact kN _ aa
 have:(a++b).drop (i*c.sz)=b.drop ((i-l.length)*c.sz):=by
  rw[fZ,jQ e,jW,f,Nat.sub_mul]
 rw[this];exact h _ x d
theorem qCu{m:Mem}{w:World}(hi:Inv m w){b:Nat}{cs:List Value}(h:MRow m b 0 cs){cur:Array Value}{e:TypeId}{f:Nat×Nat}(g:w.heap[b]? =some (.cells cur e f)):cur.toList.take cs.length=cs:=by
 apply dC
 intro j
 rw[List.getElem?_take]
 by_cases hj:j<cs.length
 .rw[if_pos hj]
  have:=h j cs[j] (by simp[hj])
  obtain⟨c,e',f',a,d⟩:=hi.1 _ _ _ this
  rw[g] at a
  simp only[jG,Obj.cells.injEq] at a
  obtain⟨rfl,_,_⟩:=a
  simp only[kW] at d
  simp[d,hj]
 rw[if_neg hj];simp[Nat.le_of_not_lt hj]
theorem St.know{m:Mem}{own:List Piece}{w:World}{b:Nat}{cs:List Value}{cur:Array Value}{e:TypeId}{f:Nat×Nat}(h:St m own w)(d:b∉own.filterMap Piece.block)
  (l:w.heap[b]? =some (.cells cur e f)) (g:cur.toList.take cs.length=cs) (c:∀o v,m.cell b o=some v->cs[o]? =some v):
  ∃m',m.le m'/\St m' own w/\MRow m' b 0 cs/\(∀o,cs.length<=o->m'.cell b o=none)/\m'.obj=m.obj/\∀k,k≠b->m'.cell k=m.cell k:=by
 refine⟨m.addCells b (fun o=>cs[o]?),m.le_addCells b _,h.addCells d ?_,?_,?_,rfl,?_⟩
 .intro o v a
  refine⟨cur,e,f,l,?_⟩
  rw[<-g,List.getElem?_take] at a
  split at a
  .simpa using a
  cases a
 .intro j v a
  simp only[Mem.addCells,kW,jE]
  cases hc:m.cell b j with
  |none=>simp[a]
  |some u=>have:=c j u hc;rw[a] at this;simp_all
 .intro o a
  simp only[Mem.addCells,jE]
  cases hc:m.cell b o with
  |none=>simp[a]
  |some u=>
   have:=c o u hc
   have n:=(List.getElem?_eq_some_iff.1 this).1
   omega
 intro k a;funext o;simp[Mem.addCells,a]
theorem qLo{α:Type}{c:Codec α}{m:Mem}{own:List Piece}{w:World}{t u ty e by_:Nat}(b3:vY P t=some (e,c.sz,by_,c.sz))(hu:wJ P u e)
  {a:Option Addr} {cap:Nat} {l k r:List α} {x:Value} (Y:St m (.room a l.length cap e c.sz::own) w) (hr:RepS c m a cap l)
  (hx:DV P c m x k)
  (M:eM by_ l k=some r):
  ∃a' cap' m' w',(Builtin.append_ #[t,u] ty #[.slice a l.length cap,x]).run P w= .ok (.slice a' r.length cap') w'/\m.le m'/\St m' (.room a' r.length cap' e c.sz::own) w'/\RepS c m' a' cap' r:=by
 obtain⟨ht,i,z,hi,hz,R,b9,c1⟩:=QH b3
 unfold eM at M
 split at M
 .rename_i Z
  simp only[jG] at M
  subst M
  obtain⟨Z,b6⟩:=Z
  have s:=Y.inv
  obtain⟨f,a6,b5⟩:=hx
  have U:=a6 w s
  obtain⟨d,K,c2,c0,b4⟩:=hr.cellsA
  have b7:f.length=k.length*c.sz:=U.2.2.1
  have a1:(d++f).length=(l++k).length*c.sz:=by simp[K,b7,kH]
  have a5:∀m',m.le m'->∀i y,(l++k)[i]? =some y->c.rep m' y (((d++f).drop (i*c.sz)).take c.sz):=fun m' D=>
   qQk K (fun i y hy=>c.mono _ _ _ _ D (b4 i y hy)) (fun i y hy=>c.mono _ _ _ _ D (b5 i y hy))
  have H:=Y.tail
  -- a new block
  have out:cap<l.length+k.length->(∀w':World,Step w w'->w'.heap=w.heap->(Builtin.firstCells i.size l.length (.slice a l.length cap)).run P w'= .ok d.toArray w')->
    ∃a' cap' m' w',(Builtin.append_ #[t,u] ty #[.slice a l.length cap,x]).run P w= .ok (.slice a' (l++k).length cap') w'/\m.le m'/\St m' (.room a' (l++k).length cap' e c.sz::own) w'/\RepS c m' a' cap' (l++k):=by
   intro E a9
   have hinv':∀w':World,Step w w'->w'.heap=w.heap->Inv m w':=fun w' M hw=>s.keep M (fun b _ _=>by rw[hw])
   have A:=WZ w t u ty e i z ht hu hi hz (n:=k.length) (news:=f) (by rw[R];exact U) a l.length cap d a9
    (fun w' M hw=>by rw[R];exact(a6 w' (hinv' w' M hw)).2.1) E (by rw[b9];exact Z) b6
   generalize hgc:grownCap w (l.length+k.length) cap e=gc at A
   have a2:l.length+k.length<=gc:=hgc▸grownCap_ge _ _ _ _
   have a7:gc<=maxLen:=hgc▸grownCap_le_maxLen _ _ _ _ b6
   generalize hcur:(d++f).toArray++Builtin.zeroCells z.cells (gc-(l.length+k.length))=cur at A
   have a8:cur.size=gc*c.sz:=by
    rw[<-hcur]
    simp only[fW,gM,size_zeroCells,c1,a1,jF,<-kH]
    congr 1;omega
   have B:=H.alloc (w':=w.drew.alloc (.cells cur e)) (o:= .cells cur e) ⟨⟨rfl,rfl⟩,rfl,mP⟩ rfl
   have b1:cur.toList.take (d++f).length=d++f:=by rw[<-hcur,Array.toList_append,hH,List.take_left]
   have V:=H.fresh_free
   obtain⟨m',D,hst',a4,b0,a3,S⟩:=St.know (b:=w.heap.size) B.tail (B.head_ne rfl) B.head.1 b1 (fun o v G=>by rw[V.1 o] at G;cases G)
   refine⟨some ⟨w.heap.size,0,none⟩,gc,m',w.drew.alloc (.cells cur e),by rw[A,jF],D,?_,RepS.of_cells (by simpa using a2) a7 (a5 m' D) a4⟩
   refine hst'.cons ⟨rfl,rfl,by simpa using a2,a7,⟨cur,B.head.1,a8⟩,?_,?_⟩ ?_
   .intro o ho;exact b0 o (by rw[a1];exact ho)
   .rw[a3];exact V.2
   intro b F
   simp only[Piece.block,kK,jG] at F
   subst F
   exact B.head_ne rfl
  cases a with
  |none=>
   obtain⟨rfl,rfl⟩:=hr.none_nil
   have B:d=[]:=jX (by simpa using K)
   subst B
   by_cases hk:k.length=0
   .have V:k=[]:=jX hk
    subst V
    refine⟨none,0,m,w,?_,m.le_refl,Y,hr⟩
    have:=WY w t u ty e i ht hu hi (x:=x) (news:=f) (by rw[R];exact U)
    simpa using this
   exact out ai (fun w' _ _=>by simp[Builtin.firstCells])
  |some p=>
   obtain⟨h1,h2,h3,h4,⟨cur,h5,h6⟩,h7,h8⟩:=Y.head
   obtain⟨g,off,spot⟩:=p
   simp only at h1 h2 h5 h7 h8
   subst h1;subst h2
   have B:=c0 _ rfl
   simp only at B
   by_cases hroom:l.length+k.length<=cap
   .have b2:l.length*i.size+f.length<=cur.size:=by rw[b7,h6,R,<-kH];exact kN _ hroom
    have A:=XC w t u ty e i ht hu hi (x:=x) (n:=k.length) (news:=f) (by rw[R];exact U) g l.length cap cur h5 hroom b2
    rw[R,<-K] at A
    rw[qCu s B h5] at A
    generalize hw':w.setRow g (d++f++cur.toList.drop (d.length+f.length)).toArray=w' at A
    have a2:w'.heap[g]? =some (.cells (d++f++cur.toList.drop (d.length+f.length)).toArray e (0,0)):=by rw[<-hw'];exact setRow_heap w g cur _ e _ h5
    have S:∀b,b≠g->w'.heap[b]? =w.heap[b]? :=fun b F=>by rw[<-hw'];exact setRow_other w g b _ F
    have a8:(d++f++cur.toList.drop (d.length+f.length)).toArray.size=cap*c.sz:=by
     simp only[gM,jF,kP,Array.length_toList]
     have:l.length*c.sz+k.length*c.sz<=cap*c.sz:=by rw[<-kH];exact kN _ hroom
     omega
    have a9:=Y.head_ne (b:=g) rfl
    have b8:St m own w':=by
     refine⟨?_,fun q hq=>Piece.holds_keep (H.2.1 q hq) (fun b F=>S b ?_),H.2.2⟩
     .refine⟨?_,?_,s.2.2.trans (by rw[<-hw'];exact⟨⟨rfl,rfl⟩,rfl,mP⟩)⟩
      .intro b o v G
       by_cases F:b=g
       .subst F
        refine⟨_,e,(0,0),a2,?_⟩
        by_cases ho:o<l.length*c.sz
        .obtain⟨cc,e',f',V,a7⟩:=s.1 b o v G
         rw[h5] at V
         simp only[jG,Obj.cells.injEq] at V
         obtain⟨rfl,_,_⟩:=V
         have E:o<d.length:=by rw[K];exact ho
         have b1:=qCu s B h5
         have:d[o]? =some v:=by
          rw[<-b1,List.getElem?_take,if_pos E]
          simpa using a7
         simp only[List.getElem?_toArray,kM,List.getElem?_append,if_pos E]
         exact this
        rw[h7 o aa] at G;cases G
       obtain⟨cc,e',f',V,a7⟩:=s.1 b o v G
       exact⟨cc,e',f',by rw[S b F];exact V,a7⟩
      intro b y hy
      have:b≠g:=by rintro rfl;rw[h8] at hy;cases hy
      rw[S b this];exact s.2.1 b y hy
     rintro rfl;exact a9 (HQ.2 ⟨q,hq,F⟩)
    obtain⟨m',D,hst',a4,b0,a3,_⟩:=St.know (b:=g) (cs:=d++f) b8 a9 a2 (by rw[hH,List.take_left]) (fun o v G=>by
     by_cases ho:o<l.length*c.sz
     .have E:o<d.length:=by rw[K];exact ho
      have:=B o d[o] (by simp[E])
      simp only[kW] at this
      rw[this] at G
      simp only[List.getElem?_append,if_pos E]
      rw[<-G];simp[E]
     rw[h7 o aa] at G;cases G)
    refine⟨some ⟨g,0,none⟩,cap,m',w',by rw[A,jF],D,?_,RepS.of_cells (by simpa using hroom) h4 (a5 m' D) a4⟩
    refine hst'.cons ⟨rfl,rfl,by simpa using hroom,h4,⟨_,a2,a8⟩,?_,?_⟩ ?_
    .intro o ho;exact b0 o (by rw[a1];exact ho)
    .rw[a3];exact h8
    intro b F
    simp only[Piece.block,kK,jG] at F
    subst F;exact a9
   exact out aa (fun w' M hw=>by
    have hinv':Inv m w':=s.keep M (fun b _ _=>by rw[hw])
    rw[R]
    exact qCb hinv' K (fun p A=>by cases A;exact⟨.inl rfl,B⟩) (fun h=>by cases h))
 cases M
end
def aR(k:IntKind):Codec Int where
 sz:=1
 pos:=dI
 rep _ x cs:=cs=[.int k x]
 len:=by rintro _ _ _ rfl;rfl
 one:=by rintro _ _ _ rfl v a;simp at a;subst a;rfl
 mono:=fun _ _ _ _ _ h=>h
def cU8:Codec UInt8 where
 sz:=1
 pos:=dI
 rep _ x cs:=cs=[.int .u8 (x.toNat:Int)]
 len:=by rintro _ _ _ rfl;rfl
 one:=by rintro _ _ _ rfl v a;simp at a;subst a;rfl
 mono:=fun _ _ _ _ _ h=>h
def cK:Codec Bool where
 sz:=1
 pos:=dI
 rep _ x cs:=cs=[.bool x]
 len:=by rintro _ _ _ rfl;rfl
 one:=by rintro _ _ _ rfl v a;simp at a;subst a;rfl
 mono:=fun _ _ _ _ _ h=>h
def aH:Codec BA where
 sz:=1
 pos:=dI
 rep _ x cs:=cs=[.string x]
 len:=by rintro _ _ _ rfl;rfl
 one:=by rintro _ _ _ rfl v a;simp at a;subst a;rfl
 mono:=fun _ _ _ _ _ h=>h
def pJ{α β:Type}(a:Codec α)(b:Codec β):Codec (α×β) where
 sz:=a.sz+b.sz
 pos:=fS a.pos (Nat.le_add_right ..)
 rep m x cs:=∃c d,cs=c++d/\a.rep m x.1 c/\b.rep m x.2 d
 len:=by rintro m x cs ⟨c,d,rfl,e,f⟩;rw[jF,a.len _ _ _ e,b.len _ _ _ f]
 one:=by
  rintro m x cs ⟨c,d,rfl,e,f⟩ v g
  rcases gI.1 g with g|g
  .exact a.one _ _ _ e v g
  exact b.one _ _ _ f v g
 mono:=by rintro m m' x cs g ⟨c,d,rfl,e,f⟩;exact⟨c,d,rfl,a.mono _ _ _ _ g e,b.mono _ _ _ _ g f⟩
def yF{α:Type}(c:Codec α):Codec (List α) where
 sz:=1
 pos:=dI
 rep m l cs:=∃a cap,cs=[.slice a l.length cap]/\RepS c m a cap l
 len:=by rintro _ _ _ ⟨a,cap,rfl,_⟩;rfl
 one:=by rintro _ _ _ ⟨a,cap,rfl,_⟩ v b;simp at b;subst b;rfl
 mono:=by rintro m m' x cs b ⟨a,cap,rfl,h⟩;exact⟨a,cap,rfl,h.mono b⟩
theorem nJ{α:Type}{c:Codec α}{m:Mem}{a:Option Addr}{cap:Nat}{l:List α}(h:RepS c m a cap l):(yF c).rep m l [.slice a l.length cap]:=⟨a,cap,rfl,h⟩
def RepAll{α:Type}(c:Codec α)(m:Mem):List α->List Value->Prop
 |[],cs=>cs=[]
 |x::l,cs=>∃a b,cs=a++b/\c.rep m x a/\RepAll c m l b
theorem RepAll.len{α:Type}{c:Codec α}{m:Mem}:∀{l:List α} {cs:List Value},RepAll c m l cs->cs.length=l.length*c.sz
 |[],cs,h=>by simp[RepAll] at h;simp[h]
 |x::l,cs,h=>by
  obtain⟨d,e,rfl,a,b⟩:=h
  rw[jF,c.len _ _ _ a,b.len,jA,kH,hD,fT]
theorem RepAll.rep{α:Type}{c:Codec α}{m:Mem}:∀{l:List α} {cs:List Value},RepAll c m l cs->∀i x,l[i]? =some x->c.rep m x ((cs.drop (i*c.sz)).take c.sz)
 |[],_,_=>by simp
 |y::l,cs,h=>by
  obtain⟨g,d,rfl,f,k⟩:=h
  intro i x b
  have a:=c.len _ _ _ f
  cases i with
  |zero=>simp at b;subst b;simp[<-a];exact f
  |succ i=>
   have e:(g++d).drop ((i+1)*c.sz)=d.drop (i*c.sz):=by
    rw[fZ,jQ (by rw[a,kH];omega),jW,a,kH,hD,hU]
   rw[e];exact k.rep i x (by simpa using b)
def pY(P:Program)(t:TypeId)(cs:List Value):Option Value:=
 match P.underlying t with
 |some (.struct _)|some (.array _ _)=>match P.info? t with
  |some i=>bif Nat.ble i.size cs.length then some (.agg (cs.take i.size).toArray) else none
  |none=>none
 |some _=>cs.head?
 |none=>none
def OF:TypeDesc->Bool
 | .struct _=>true
 | .array _ _=>true
 |_=>false
theorem CY{P:Program}{w:World}{t:TypeId}{b o:Nat}{cs:List Value}{v:Value}(g:∀j u,cs[j]? =some u->w.cell? ⟨b,o+j,none⟩=some u)(h:pY P t cs=some v):
  (loadVar t ⟨b,o,none⟩).run P w= .ok v w:=by
 have agg:∀d,P.underlying t=some d->(isAgg t).run P w= .ok (OF d) w:=by
  intro d a;unfold isAgg;cases d<;>simp[run_underlying a,OF]
 have big:∀d,P.underlying t=some d->OF d=true->(match P.info? t with
  |some i=>bif Nat.ble i.size cs.length then some (Value.agg (cs.take i.size).toArray) else none
  |none=>none)=some v->(loadVar t ⟨b,o,none⟩).run P w= .ok v w:=by
  intro d a l h
  cases hi:P.info? t with
  |none=>simp[hi] at h
  |some i=>
   simp only[hi] at h
   cases e:Nat.ble i.size cs.length with
   |false=>simp[e] at h
   |true=>
    simp[e] at h
    subst h
    have hle':=kS e
    have k:=run_loadCells_list (P:=P) w ⟨b,o,none⟩ (cs.take i.size) (fun j u f=>by
     rw[xJ]
     rw[List.getElem?_take] at f
     split at f
     .exact g j u f
     cases f)
    have:(cs.take i.size).length=i.size:=by simp;omega
    rw[this] at k
    have c:=agg d a
    rw[l] at c
    simp[loadVar,c,sizeOf,typeInfo,hi,k]
 unfold pY at h
 split at h
 .rename_i a;exact big _ a rfl h
 .rename_i a;exact big _ a rfl h
 .rename_i d hn1 hn2 a
  have c:=agg d a
  have e:OF d=false:=by
   cases d<;>first|rfl|exact(hn1 _ rfl).elim|exact(hn2 _ _ rfl).elim
  rw[e] at c
  have f:cs[0]? =some v:=by rw[List.head?_eq_getElem?] at h;exact h
  have:=g 0 v f
  simp only[gU] at this
  simp[loadVar,c,this]
 cases h
section
variable {P:Program} {n:Fr} {ops:Array Oper} {Q:Exit->Act->World->Prop} {i d:Nat} {L:bK} {w:World} {m:Mem} {own:List Piece} {N:bK->World->Prop}
theorem cL{L:bK}{x:Operand}{v:Value}(h:bV L x=some v):mQ L x=v:=by simp[mQ,h]
theorem XI{t:TypeId}{x:Operand}{b o:Nat}{cs:List Value}(v:Value)(f:dK ops L i=some (some d,.load t x))(c:Nat.blt d n=true)
  (r:bV L x=some (.pointer (some ⟨b,o,none⟩))) (a:St m own w) (k:MRow m b o cs) (p:pY P t cs=some v)
  (h:N ((d,v)::L) w):eL P n ops Q i N L w:=by
 refine mS f c (fun q g=> ?_) h
 have e:=CY (P:=P) (w:=w) (t:=t) (b:=b) (o:=o) (cs:=cs) (v:=v) (fun j u l=>a.inv.cell (k j u l)) p
 simp[execOp,g,Instr.loadAt,cL r,Instr.sureAddr,e]
theorem QT{t e:TypeId}{x:Operand}{b o:Nat}{c:Array Value}{f:Nat×Nat}(v:Value)(p:dK ops L i=some (some d,.load t x))(k:Nat.blt d n=true)
  (z:bV L x=some (.pointer (some ⟨b,o,none⟩))) (r:Piece.holds m w (.blk b (.cells c e f))) (y:pY P t (c.toList.drop o)=some v)
  (h:N ((d,v)::L) w):eL P n ops Q i N L w:=by
 refine mS p k (fun q s=> ?_) h
 have g:=r.1
 have l:=CY (P:=P) (w:=w) (t:=t) (b:=b) (o:=o) (cs:=c.toList.drop o) (v:=v) (fun j u a=>by
  rw[List.getElem?_drop] at a
  simp only[World.cell?,g]
  simpa using a) y
 simp[execOp,s,Instr.loadAt,cL z,Instr.sureAddr,l]
def OJ:List Value->Bool
 |[]=>true
 |v::l=>v.oneCell'&&OJ l
theorem YM{l:List Value}(h:OJ l=true):∀v∈l,v.oneCell'=true:=by
 induction l with
 |nil=>simp
 |cons u l b=>
  simp only[OJ,jJ] at h
  intro v a
  rcases jI.1 a with rfl|a
  .exact h.1
  exact b h.2 v a
def xN(P:Program)(t:TypeId)(v:Value)(o n:Nat):Bool:=
 match P.info? t with
 |some i=>Nat.beq v.cells.size i.size&&Nat.ble (o+v.cells.size) n&&OJ v.cells.toList
 |none=>false
theorem SS{t e:TypeId}{x y:Operand}{b o:Nat}{c c':Array Value}{v:Value}(s:dK ops L i=some (none,.store t x y))
  (z:bV L x=some (.pointer (some ⟨b,o,none⟩))) (A:bV L y=some v) (f:St m (.blk b (.cells c e (0,0))::own) w) (d:xN P t v o c.size=true)
  (hc':(c.toList.take o++v.cells.toList++c.toList.drop (o+v.cells.toList.length)).toArray=c')
  (h:∀w',St m (.blk b (.cells c' e (0,0))::own) w'->N L w'):eL P n ops Q i N L w:=by
 unfold xN at d
 cases hi:P.info? t with
 |none=>simp[hi] at d
 |some inf=>
  simp only[hi,jJ] at d
  obtain⟨⟨g,l⟩,p⟩:=d
  have h1':=fD g
  have h2':=kS l
  have a:=run_storeCells_at P b o e v.cells.toList 0 c w f.head.1 (by simpa using h2') (YM p)
  simp only[gU] at a
  rw[hc'] at a
  refine zD s (fun q u=> ?_) (h (w.setRow b c') (f.set ⟨⟨rfl,rfl⟩,rfl,mP⟩ (setRow_heap w b c c' e _ f.head.1) (fun k _ r=>setRow_other w b k _ r)))
  simp[execOp,u,Instr.storeAt,cL z,cL A,Instr.sureAddr,storeVar,sizeOf,typeInfo,hi,h1',a]
theorem YK{e:TypeId}{x:Operand}(v:Value)(f:dK ops L i=some (some d,.box e x))(c:Nat.blt d n=true)(k:bV L x=some v)(a:St m own w)
  (h:∀b w',St m (.blk b (.cells v.cells e (0,0))::own) w'->N ((d,.pointer (some ⟨b,0,none⟩))::L) w'):eL P n ops Q i N L w:=by
 refine mS (w':=w.alloc (.cells v.cells e)) f c (fun q g=> ?_) (h w.heap.size _ (a.alloc ⟨⟨rfl,rfl⟩,rfl,mP⟩ rfl))
 simp[execOp,g,Instr.box,cL k,newVar,newRow]
theorem St.settle{b:Nat}{c:Array Value}{e:TypeId}{f:Nat×Nat}(h:St m (.blk b (.cells c e f)::own) w):∃m',m.le m'/\St m' own w/\MRow m' b 0 c.toList:=by
 obtain⟨m',d,g,k,_⟩:=St.know (cs:=c.toList) h.tail (h.head_ne rfl) h.head.1 (fA (jP _)) (fun o v a=>by rw[h.head.2.1 o] at a;cases a)
 exact⟨m',d,g,k⟩
theorem qSp{e:TypeId}{x:Operand}(v:Value)(l:dK ops L i=some (some d,.box e x))(k:Nat.blt d n=true)(p:bV L x=some v)(a:St m own w)
  (h:∀b m' w',m.le m'->St m' own w'->MRow m' b 0 v.cells.toList->N ((d,.pointer (some ⟨b,0,none⟩))::L) w'):eL P n ops Q i N L w:=by
 refine YK v l k p a (fun b w' o=> ?_)
 obtain⟨m',c,f,g⟩:=o.settle
 exact h b m' w' c f g
def US(P:Program)(e:TypeId):Option Value:=(P.info? e).bind (·.zero)
theorem qAn{e:TypeId}(v:Value)(f:dK ops L i=some (some d,.alloc e))(c:Nat.blt d n=true)(k:US P e=some v)(a:St m own w)
  (h:∀b w',St m (.blk b (.cells v.cells e (0,0))::own) w'->N ((d,.pointer (some ⟨b,0,none⟩))::L) w'):eL P n ops Q i N L w:=by
 obtain⟨inf,hi,hz'⟩:=jK.1 k
 refine mS (w':=w.alloc (.cells v.cells e)) f c (fun q g=> ?_) (h w.heap.size _ (a.alloc ⟨⟨rfl,rfl⟩,rfl,mP⟩ rfl))
 simp[execOp,g,Instr.alloc,zeroValue,typeInfo,hi,hz',newVar,newRow]
def bS{α:Type}(l:List α)(i:Int):Option α:=if 0<=i then l[i.toNat]? else none
def qU(P:Program)(t:TypeId):Option (TypeId×Nat):=
 match P.underlying t with
 |some (.slice e)=>(P.info? e).map fun i=>(e,i.size)
 |_=>none
theorem xH{t e sz:Nat}(h:qU P t=some (e,sz)):P.underlying t=some (.slice e)/\∃inf,P.info? e=some inf/\inf.size=sz:=by
 unfold qU at h
 split at h
 .rename_i e' he
  cases hi:P.info? e' with
  |none=>simp[hi] at h
  |some inf=>simp[hi] at h;obtain⟨rfl,a⟩:=h;exact⟨he,inf,hi,a⟩
 cases h
theorem qNz{α:Type}{t e:TypeId}{x y:Operand}(c:Codec α){a:Option Addr}{cap:Nat}{l:List α}{k:IntKind}{ix:Int}{z:α}(E:dK ops L i=some (some d,.indexAddr t x y))(B:Nat.blt d n=true)
  (G:bV L x=some (.slice a l.length cap)) (H:bV L y=some (.int k ix)) (hi:qU P t=some (e,c.sz)) (r:RepS c m a cap l) (g:bS l ix=some z)
  (h:∀b o cs,c.rep m z cs->MRow m b o cs->N ((d,.pointer (some ⟨b,o,none⟩))::L) w):eL P n ops Q i N L w:=by
 obtain⟨s,inf,u,v⟩:=xH hi
 unfold bS at g
 split at g
 .rename_i h0
  have f:ix.toNat<l.length:=(List.getElem?_eq_some_iff.1 g).1
  cases a with
  |none=>obtain⟨rfl,_⟩:=r.none_nil;simp at f
  |some p=>
   obtain⟨cs,A,D⟩:=r.2.2.2 _ _ g
   refine mS E B (fun q F=> ?_) (h p.block (p.off+ix.toNat*c.sz) cs A D)
   have hlt':ix<(l.length:Int):=by omega
   simp[execOp,F,Instr.indexAt,cL G,cL H,asIntOf,run_underlying s,h0,hlt',sizeOf,typeInfo,u,v,CW (r.spot (fun e=>by rw[e] at f;simp at f))]
 cases g
theorem qNe{α:Type}{t u e by_:Nat}{x y:Operand}(c:Codec α){a:Option Addr}{cap:Nat}{l k r:List α}{v:Value}
  (A:dK ops L i=some (some d,.call {callee:= .builtin .append,args:= #[x,y],argTypes:= #[t,u]})) (s:Nat.blt d n=true)
  (F:bV L x=some (.slice a l.length cap)) (G:bV L y=some v) (p:St m (.room a l.length cap e c.sz::own) w) (hi:vY P t=some (e,c.sz,by_,c.sz)) (E:wJ P u e)
  (B:RepS c m a cap l) (z:DV P c m v k) (D:eM by_ l k=some r)
  (h:∀a' cap' m' w',m.le m'->St m' (.room a' r.length cap' e c.sz::own) w'->RepS c m' a' cap' r->N ((d,.slice a' r.length cap')::L) w'):eL P n ops Q i N L w:=by
 refine DC (v:=undef) (w':=w) A s (fun o q=> ?_)
 obtain⟨a',cap',m',w',f,g,hst',b⟩:=qLo (P:=P) (ty:=o.type) hi E p B z D
 refine⟨_,w',?_,h a' cap' m' w' g hst' b⟩
 simp[execOp,q,resolve,invoke,builtin,cL F,cL G,f]
theorem St.nilroom(h:St m own w)(e sz:Nat):St m (.room none 0 0 e sz::own) w:=h.cons ⟨rfl,rfl⟩ (by simp[Piece.block])
theorem oB{α:Type}{t e:TypeId}{len:Nat}{parts:Array (Nat×Operand)}(c:Codec α){xs:List α}(cs:List Value)(H:dK ops L i=some (some d,.buildSlice t len parts))(G:Nat.blt d n=true)
  (u:∀w:World,(Instr.buildSlice t len (parts.map fun p=>(p.1,mQ L p.2))).run P w= .ok (.slice (some ⟨w.heap.size,0,none⟩) len len) (w.alloc (.cells cs.toArray e)))
  (l:len=xs.length) (r:Nat.ble len maxLen=true) (k:St m own w) (s:RepAll c m xs cs)
  (h:∀b m' w',m.le m'->St m' (.room (some ⟨b,0,none⟩) xs.length len e c.sz::own) w'->RepS c m' (some ⟨b,0,none⟩) len xs->N ((d,.slice (some ⟨b,0,none⟩) xs.length len)::L) w'):eL P n ops Q i N L w:=by
 subst l
 have a:=k.alloc (w':=w.alloc (.cells cs.toArray e)) ⟨⟨rfl,rfl⟩,rfl,mP⟩ rfl
 have f:=k.fresh_free
 obtain⟨m',y,B,D,E,F,_⟩:=St.know (cs:=cs) a.tail (a.head_ne rfl) a.head.1 ae (fun o v A=>by rw[f.1 o] at A;cases A)
 have g:=kS r
 refine mS H G (fun q K=> ?_) (h w.heap.size m' _ y (B.cons ⟨rfl,rfl,jP _,g,⟨cs.toArray,a.head.1,by simp[s.len]⟩,?_,?_⟩ ?_) (RepS.of_cells (jP _) g (fun j x M=>c.mono _ _ _ _ y (s.rep j x M)) D))
 .simp[execOp,K,u w]
 .intro o ho';exact E o (by rw[s.len];exact ho')
 .rw[F];exact f.2
 intro b z;simp only[Piece.block,kK,jG] at z;subst z;exact a.head_ne rfl
def RI(P:Program)(t:TypeId)(len:Nat)(parts:List (Nat×Value)):Option (TypeId×List Value):=
 match P.underlying t with
 |some (.slice e)=>match P.info? e with
  |some inf=>bif Nat.ble (len*inf.size) (2^24)&&Nat.blt 0 (len*inf.size) then
   (match inf.zero with
   |some z=>(Instr.fill (fun i=>some (i*inf.size,inf.size)) ((Array.range (len*inf.size)).map (z.cells[· %z.cells.size]!)) parts).map fun a=>(e,a.toList)
   |none=>none) else none
  |none=>none
 |_=>none
theorem oA{t e:TypeId}{len:Nat}{parts:Array (Nat×Value)}{cs:List Value}(h:RI P t len parts.toList=some (e,cs))(w:World):
  (Instr.buildSlice t len parts).run P w= .ok (.slice (some ⟨w.heap.size,0,none⟩) len len) (w.alloc (.cells cs.toArray e)):=by
 unfold RI at h
 split at h
 .rename_i e' he
  split at h
  .rename_i inf hi
   cases b:(Nat.ble (len*inf.size) (2^24)&&Nat.blt 0 (len*inf.size)) with
   |false=>simp[b] at h
   |true=>
    simp only[b,cond_true] at h
    simp only[jJ] at b
    have g:=kS b.1
    have k:0<len*inf.size:=by simpa[Nat.blt_eq] using b.2
    have h1':¬(16777216<len*inf.size):=by omega
    have h2':¬(len*inf.size=0):=by omega
    split at h
    .rename_i z hz
     obtain⟨a,f,c⟩:=kA.1 h
     simp only[Prod.mk.injEq] at c
     obtain⟨rfl,rfl⟩:=c
     simp[Instr.buildSlice,run_underlying he,sizeOf,typeInfo,zeroValue,hi,hz,h1',f,newRow]
     intro d;exact absurd d h2'
    cases h
  cases h
 cases h
def EJ{α:Type}(l:List α)(lo hi:Int):Option (List α):=if 0<=lo/\lo<=hi/\hi<=l.length then some ((l.take hi.toNat).drop lo.toNat) else none
theorem RepS.sub{α:Type}{c:Codec α}{a:Option Addr}{cap:Nat}{l:List α}(h:RepS c m a cap l){lo hi:Nat}(o:lo<=hi)(g:hi<=l.length):
  RepS c m (if cap=lo then a else a.map (·.add (lo*c.sz))) (cap-lo) ((l.take hi).drop lo)/\((l.take hi).drop lo).length=hi-lo:=by
 have d:((l.take hi).drop lo).length=hi-lo:=by simp;omega
 refine⟨⟨by rw[d];have:=h.1;omega,by have:=h.2.1;omega,?_⟩,d⟩
 cases a with
 |none=>
  obtain⟨rfl,e⟩:=h.none_nil
  have:(if cap=lo then(none:Option Addr) else(none:Option Addr).map (·.add (lo*c.sz)))=none:=by split<;>rfl
  rw[this]
  simp[e]
 |some p=>
  by_cases hl:l=[]
  .subst hl
   have b:lo=0:=by simp at g;omega
   subst b
   simp[Addr.add]
  have f:=h.spot hl
  by_cases e:cap=lo
  .rw[if_pos e]
   refine⟨.inl f,fun j x b=> ?_⟩
   have k:=(List.getElem?_eq_some_iff.1 b).1
   have:=h.1
   omega
  rw[if_neg e]
  simp only[kK]
  rw[CW f]
  refine⟨.inl rfl,fun j x b=> ?_⟩
  rw[List.getElem?_drop,List.getElem?_take] at b
  split at b
  .obtain⟨cs,n,k⟩:=h.2.2.2 _ _ b
   refine⟨cs,n,?_⟩
   rw[fK,<-kH];exact k
  cases b
theorem qOg{α:Type}{t e:TypeId}{x:Operand}{lo hi:Option Operand}(c:Codec α){a:Option Addr}{cap:Nat}{l r:List α}{li hix:Int}
  (u:bV L x=some (.slice a l.length cap)) (H:qU P t=some (e,c.sz)) (E:RepS c m a cap l)
  (D:(lo=none/\li=0)\/∃y k,lo=some y/\bV L y=some (.int k li)) (A:(hi=none/\hix=l.length)\/∃y k,hi=some y/\bV L y=some (.int k hix)) (g:EJ l li hix=some r):
  ∃v,(∀o:Oper,o.op= .slice t x lo hi none->∀w:World,(execOp (mQ L) o).run P w= .ok (.value v) w)/\∃a' cap',v= .slice a' r.length cap'/\RepS c m a' cap' r:=by
 obtain⟨h,inf,n,p⟩:=xH H
 unfold EJ at g
 split at g
 .rename_i hb
  obtain⟨z,G,K⟩:=hb
  simp only[jG] at g
  have b:=E.sub (lo:=li.toNat) (hi:=hix.toNat) aa aa
  rw[g] at b
  refine⟨_,fun q s w=> ?_,_,_,rfl,b.1⟩
  have d:hix<=(cap:Int):=by have:=E.1;omega
  have f:0<=hix:=by omega
  have B:li<=max hix 0:=by omega
  rcases D with ⟨rfl,rfl⟩|⟨y,k,rfl,F⟩<;>rcases A with ⟨rfl,rfl⟩|⟨y',k',rfl,hy'⟩
  .simp[execOp,s,Instr.sliceAt,Instr.slice,Instr.sliceBounds,run_underlying h,cL u,sizeOf,typeInfo,n,p] at*
   exact b.2.symm
  .simp[execOp,s,Instr.sliceAt,Instr.slice,Instr.sliceBounds,Instr.sliceBound,asIntOf,run_underlying h,cL u,cL hy',sizeOf,typeInfo,n,p,f,d] at*
   exact b.2.symm
  .have:li<=(l.length:Int):=G
   simp[execOp,s,Instr.sliceAt,Instr.slice,Instr.sliceBounds,Instr.sliceBound,asIntOf,run_underlying h,cL u,cL F,sizeOf,typeInfo,n,p,z,this] at*
   exact b.2.symm
  simp[execOp,s,Instr.sliceAt,Instr.slice,Instr.sliceBounds,Instr.sliceBound,asIntOf,run_underlying h,cL u,cL F,cL hy',sizeOf,typeInfo,n,p,f,d,z,B] at*
  exact b.2.symm
 cases g
theorem qPc{α:Type}{t e:TypeId}{x:Operand}{lo hi:Option Operand}(c:Codec α){a:Option Addr}{cap:Nat}{l r:List α}{li hix:Int}
  (s:dK ops L i=some (some d,.slice t x lo hi none)) (p:Nat.blt d n=true) (D:bV L x=some (.slice a l.length cap)) (o:qU P t=some (e,c.sz)) (z:RepS c m a cap l)
  (g:(lo=none/\li=0)\/∃y k,lo=some y/\bV L y=some (.int k li)) (f:(hi=none/\hix=l.length)\/∃y k,hi=some y/\bV L y=some (.int k hix)) (A:EJ l li hix=some r)
  (h:∀a' cap',RepS c m a' cap' r->N ((d,.slice a' r.length cap')::L) w):eL P n ops Q i N L w:=by
 obtain⟨v,B,a',cap',rfl,b⟩:=qOg (P:=P) (L:=L) c D o z g f A
 exact mS s p (fun q u=>B q u w) (h a' cap' b)
end
end
end Go.Dc
section
namespace Go.Dc
def EL(k:IntKind)(a b:Int):Int:=k.wrap ((BitVec.ofInt k.bits a&&&BitVec.ofInt k.bits b).toNat:Int)
def VN(k:IntKind)(a b:Int):Int:=k.wrap ((BitVec.ofInt k.bits a^^^BitVec.ofInt k.bits b).toNat:Int)
def zY(k:IntKind)(x y:Int):Option Int:=if y<0 then none else some (x.fdiv (2^(min y.toNat k.bits)))
def vA(k:IntKind)(x y:Int):Option Int:=if y=0 then none else some (k.wrap (x.tdiv y))
def yB(x y:Int):Option Int:=if y=0 then none else some (x.tmod y)
def aK{σ β:Type}(f:σ->Option (σ⊕β)):Nat->σ->Option β
 |0,_=>none
 |k+1,s=>(f s).bind fun
  | .inl s'=>aK f k s'
  | .inr b=>some b
theorem qMi{σ β:Type}{f:σ->Option (σ⊕β)}{k:Nat}{s:σ}{b:β}(h:aK f (k+1) s=some b):∃c,f s=some c/\(∀s',c= .inl s'->aK f k s'=some b)/\(∀b',c= .inr b'->b'=b):=by
 simp only[aK] at h
 obtain⟨c,d,a⟩:=jK.1 h
 refine⟨c,d,?_,?_⟩
 .rintro s' rfl;exact a
 rintro b' rfl;simpa using a
section
variable {ρ:Option Nat} {P:Program} {n:Fr} {ops:Array Oper} {Q:Exit->Act->World->Prop} {i d:Nat} {L:bK} {w:World} {m:Mem} {own:List Piece} {N:bK->World->Prop}
theorem qDt{t:Nat}{b:Bool}(e:Bool)(d:iB L t=some (.bool e))(f:e=b)(h:WO P n ops Q i ((t,.bool b)::L) w):WO P n ops Q i L w:=by
 intro a g
 refine h a (g.sub ?_)
 intro u v c
 simp only[iB] at c
 cases hb:Nat.beq t u with
 |true=>
  simp only[hb,cond_true] at c
  have:=fD hb;subst this
  rw[d,f];exact c
 |false=>simp only[hb,cond_false] at c;exact c
theorem zL{j:Nat}(I:bK->World->Prop)(a:∀L' w',I L' w'->WO P n ops Q j L' w')(b:(∀L' w',I L' w'->WO P n ops Q j L' w')->WO P n ops Q i L w):WO P n ops Q i L w:=b a
theorem dW{c:Code}(e:Exit)(I:bK->World->Prop)(b:∀L' w',I L' w'->X n Q e L' w')(a:(∀L' w',I L' w'->X n Q e L' w')->W ρ P n c Q L w):W ρ P n c Q L w:=a b
theorem qTd{t t2:TypeId}{x y:Operand}{k p:IntKind}{a b r:Int}(f:dK ops L i=some (some d,.binOp .shr t x y t2))(e:Nat.blt d n=true)(l:bV L x=some (.int k a))(o:bV L y=some (.int p b))
  (c:zY k a b=some r) (h:N ((d,.int k r)::L) w):eL P n ops Q i N L w:=by
 unfold zY at c
 split at c
 .cases c
 rename_i hb
 simp only[jG] at c;subst c
 refine mS f e (fun q g=> ?_) h
 simp[execOp,g,cL l,cL o,eqGuard,binOp,Op.shift,hb]
theorem qEe{t t2:TypeId}{x y:Operand}{k:IntKind}{a b r:Int}(f:dK ops L i=some (some d,.binOp .quo t x y t2))(e:Nat.blt d n=true)(l:bV L x=some (.int k a))(o:bV L y=some (.int k b))
  (c:vA k a b=some r) (h:N ((d,.int k r)::L) w):eL P n ops Q i N L w:=by
 unfold vA at c
 split at c
 .cases c
 rename_i hb
 simp only[jG] at c;subst c
 refine mS f e (fun q g=> ?_) h
 simp[execOp,g,cL l,cL o,eqGuard,binOp,Op.intDiv,hb]
theorem qDz{t t2:TypeId}{x y:Operand}{k:IntKind}{a b r:Int}(f:dK ops L i=some (some d,.binOp .rem t x y t2))(e:Nat.blt d n=true)(l:bV L x=some (.int k a))(o:bV L y=some (.int k b))
  (c:yB a b=some r) (h:N ((d,.int k r)::L) w):eL P n ops Q i N L w:=by
 unfold yB at c
 split at c
 .cases c
 rename_i hb
 simp only[jG] at c;subst c
 refine mS f e (fun q g=> ?_) h
 simp[execOp,g,cL l,cL o,eqGuard,binOp,Op.intDiv,hb]
def nD(s:BA)(lo hi:Int):Option BA:=if 0<=lo/\lo<=hi/\hi<=s.size then some ⟨((s.data.toList.drop lo.toNat).take (hi.toNat-lo.toNat)).toArray⟩ else none
theorem qBn(s:BA)(lo hi:Int):nD s lo hi=if 0<=lo/\lo<=hi/\hi<=s.size then some (s.extract lo.toNat hi.toNat) else none:=by
 have:s.extract lo.toNat hi.toNat=⟨((s.data.toList.drop lo.toNat).take (hi.toNat-lo.toNat)).toArray⟩:=by
  apply ByteArray.ext
  rw[ByteArray.data_extract]
  apply Array.ext'
  simp[kY]
 rw[this];rfl
def iC(s:BA)(i:Int):Option UInt8:=if 0<=i then s[i.toNat]? else none
def dM(s t:BA):Option BA:=if s.size+t.size<=maxLen then some (s++t) else none
def oV(l:List UInt8):BA:=⟨l.toArray⟩
theorem qKp{t:TypeId}{x y:Operand}{s:BA}{k:IntKind}{ix:Int}{z:UInt8}(c:dK ops L i=some (some d,.index t x y))(b:Nat.blt d n=true)(g:bV L x=some (.string s))(l:bV L y=some (.int k ix))
  (f:P.underlying t=some .string) (a:iC s ix=some z) (h:N ((d,.int .u8 (z.toNat:Int))::L) w):eL P n ops Q i N L w:=by
 unfold iC at a
 split at a
 .rename_i h0
  refine mS c b (fun q e=> ?_) h
  simp[execOp,e,cL g,cL l,Instr.index,asIntOf,run_underlying f,h0,a]
 cases a
theorem pU{t:TypeId}{x:Operand}{lo hi:Option Operand}{s r:BA}{li hix:Int}(B:dK ops L i=some (some d,.slice t x lo hi none))(A:Nat.blt d n=true)(f:bV L x=some (.string s))
  (e:P.underlying t=some .string) (u:(lo=none/\li=0)\/∃y k,lo=some y/\bV L y=some (.int k li)) (o:(hi=none/\hix=s.size)\/∃y k,hi=some y/\bV L y=some (.int k hix)) (b:nD s li hix=some r)
  (h:N ((d,.string r)::L) w):eL P n ops Q i N L w:=by
 rw[qBn] at b
 split at b
 .rename_i hb
  obtain⟨g,z,l⟩:=hb
  simp only[jG] at b;subst b
  refine mS B A (fun q c=> ?_) h
  have a:0<=hix:=by omega
  have p:li<=max hix 0:=by omega
  rcases u with ⟨rfl,rfl⟩|⟨y,k,rfl,v⟩<;>rcases o with ⟨rfl,rfl⟩|⟨y',k',rfl,hy'⟩
  .simp[execOp,c,Instr.sliceAt,Instr.slice,Instr.sliceBounds,run_underlying e,cL f]
  .simp[execOp,c,Instr.sliceAt,Instr.slice,Instr.sliceBounds,Instr.sliceBound,asIntOf,run_underlying e,cL f,cL hy',a,l]
  .have:li<=(s.size:Int):=z
   simp[execOp,c,Instr.sliceAt,Instr.slice,Instr.sliceBounds,Instr.sliceBound,asIntOf,run_underlying e,cL f,cL v,g,this]
  simp[execOp,c,Instr.sliceAt,Instr.slice,Instr.sliceBounds,Instr.sliceBound,asIntOf,run_underlying e,cL f,cL v,cL hy',a,l,g,p]
 cases b
theorem qSq{t t2:TypeId}{x y:Operand}{a b r:BA}(g:dK ops L i=some (some d,.binOp .add t x y t2))(f:Nat.blt d n=true)(l:bV L x=some (.string a))(o:bV L y=some (.string b))
  (c:dM a b=some r) (h:N ((d,.string r)::L) w):eL P n ops Q i N L w:=by
 unfold dM at c
 split at c
 .rename_i hb
  simp only[jG] at c;subst c
  refine mS g f (fun q k=> ?_) h
  have e:IntKind.i64.max=9223372036854775807:=by decide
  have hb':¬(9223372036854775807<(a.size:Int)+(b.size:Int)):=by simp only[maxLen] at hb;omega
  simp[execOp,k,cL l,cL o,eqGuard,binOp,Op.stringOp,e,hb']
 cases c
def ResAt(P:Program)(w:World)(L:bK)(rv:ResultVar)(v:Value):Prop:=
 match rv with
 | .tmp t=>iB L t=some v
 | .cell a t=>∃b o cs,iB L a=some (.pointer (some ⟨b,o,none⟩))/\(∀j u,cs[j]? =some u->w.cell? ⟨b,o+j,none⟩=some u)/\pY P t cs=some v
def ResAll(P:Program)(w:World)(L:bK):List ResultVar->List Value->Prop
 |[],vs=>vs=[]
 |rv::l,vs=>∃v vs',vs=v::vs'/\ResAt P w L rv v/\ResAll P w L l vs'
def uN:List Value->Value
 |[v]=>v
 |vs=> .tuple vs.toArray
theorem ResAt.row{t:TypeId}{a:Nat}{b o:Nat}{cs:List Value}{v:Value}(d:iB L a=some (.pointer (some ⟨b,o,none⟩)))(c:St m own w)(e:MRow m b o cs)(g:pY P t cs=some v):ResAt P w L (.cell a t) v:=
 ⟨b,o,cs,d,fun j u f=>c.inv.cell (e j u f),g⟩
theorem ResAt.blk{t e:TypeId}{a:Nat}{b o:Nat}{c:Array Value}{f:Nat×Nat}{v:Value}(g:iB L a=some (.pointer (some ⟨b,o,none⟩)))(h:Piece.holds m w (.blk b (.cells c e f)))(k:pY P t (c.toList.drop o)=some v):ResAt P w L (.cell a t) v:=
 ⟨b,o,c.toList.drop o,g,fun j u d=>by
  rw[List.getElem?_drop] at d
  simp only[World.cell?,h.1]
  simpa using d,k⟩
def II(tmps:Array Value):ResultVar->Sem Value
 | .tmp t=>pure (tmps.getD t undef)
 | .cell a t=>do loadVar t (<-asAddr (tmps.getD a undef))
theorem qNg(fn:Func)(tmps:Array Value):results fn tmps=(do let vs <-fn.results.mapM (II tmps);pure (if h:vs.size=1 then vs[0] else .tuple vs)):=by
 unfold results
 congr 2
theorem oT{k:Nat}{fn:Func}{R:Ending->World->Prop}(rvs:List ResultVar)(vs:List Value)(q:fn.results=rvs.toArray)(y:ResAll P w L rvs vs)(h:R (.returned (uN vs)) w):X ⟨k,[]⟩ (bodyPost P fn R) .ret L w:=by
 intro a c
 refine⟨c.2.1,uN vs,?_,h⟩
 have key:∀(l:List ResultVar) (us:List Value),ResAll P w L l us->Sem.run P (l.mapM (II a.tmps)) w= .ok us w:=by
  intro l
  induction l with
  |nil=>intro us h;simp[ResAll] at h;subst h;simp
  |cons r l z=>
   rintro us ⟨v,vs',rfl,e,f⟩
   have s:Sem.run P (II a.tmps r) w= .ok v w:=by
    cases r with
    |tmp t=>
     have d:a.tmps[t]? =some v:=c.2.2 t v e
     simp[II,d]
    |cell x t=>
     obtain⟨b,o,cs,g,n,p⟩:=e
     have d:a.tmps[x]? =some (.pointer (some ⟨b,o,none⟩)):=c.2.2 x _ g
     have:=CY (P:=P) n p
     simp[II,d,asAddr,this]
   rw[List.mapM_cons]
   simp only[Sem.run_bind,s,Result.andThen_ok,z vs' f,Sem.run_pure]
 have d:=key rvs vs y
 rw[qNg,q]
 simp only[Sem.run_bind,List.mapM_toArray,Sem.run_map,d,Result.andThen_ok,Sem.run_pure]
 rcases vs with _|⟨v,_|⟨u,r⟩⟩
 .rfl
 .rfl
 simp[uN]
end
end Go.Dc
namespace Go.Dc
theorem not_true{e:Bool}(h:e=false):¬e=true:=by rw[h];exact gK
theorem ResAt.tmp{P:Program}{w:World}{L:bK}{t:Nat}{v:Value}(h:iB L t=some v):ResAt P w L (.tmp t) v:=h
theorem ResAll.nil{P:Program}{w:World}{L:bK}:ResAll P w L [] []:=rfl
theorem ResAll.cons{P:Program}{w:World}{L:bK}{rv:ResultVar}{l:List ResultVar}{v:Value}{vs:List Value}(a:ResAt P w L rv v)(b:ResAll P w L l vs):ResAll P w L (rv::l) (v::vs):=⟨v,vs,rfl,a,b⟩
theorem aX{α β:Type}{x:Option α}{f:α->Option β}{b:β}(h:x.bind f=some b):∃a,x=some a/\f a=some b:=jK.1 h
end Go.Dc
namespace Go.Dc
theorem eK(e:Bool):e=true\/e=false:=by cases e<;>simp
end Go.Dc
namespace Go.Dc
theorem qMp{σ β:Type}{f:σ->Option (σ⊕β)}{s:σ}{b:β}{p:Prop}(h:aK f 0 s=some b):p:=by simp[aK] at h
end Go.Dc
namespace Go.Dc
section
variable {ρ:Option Nat} {P:Program} {n:Fr} {ops:Array Oper} {Q:Exit->Act->World->Prop} {L:bK} {w:World} {m:Mem} {own:List Piece}
def TS:List (Nat×(World->Prop))->Array Bool->World->Prop
 |[],_,_=>True
 |p::ks,l,w=>(l.getD p.1 false=true\/p.2 w)/\TS ks l w
theorem UQ{ks:List (Nat×(World->Prop))}{l:Array Bool}{w:World}:TS ks l w↔∀p∈ks,l.getD p.1 false=true\/p.2 w:=by
 induction ks with
 |nil=>simp[TS]
 |cons p ks a=>simp[TS,a]
def qDn(ks:List (Nat×(World->Prop)))(i:Nat):Bool:=ks.all fun p=> !Nat.beq p.1 i
theorem qKq{ks:List (Nat×(World->Prop))}{i:Nat}(h:qDn ks i=true):∀p∈ks,p.1≠i:=by
 intro p a e
 have:=jN.1 h p a
 subst e
 simp at this
def IN(P:Program)(ops:Array Oper)(Q:Exit->Act->World->Prop)(ks:List (Nat×(World->Prop))):Nat->Array Bool->Act->World->Prop
 |0,listed,a,w=>Region.ready .any ops listed=[]/\Q .normal a w
 |fuel+1,listed,a,w=>
  (Region.ready .any ops listed=[]->Q .normal a w)/\
  ∀i∈Region.ready .any ops listed,nY P ops Q i (fun a' w'=>TS ks (listed.setIfInBounds i true) w'/\IN P ops Q ks fuel (listed.setIfInBounds i true) a' w') a w
theorem ZJ{ρ:Option Nat}(b:DH ρ ops=true){ks:List (Nat×(World->Prop))}:∀(fuel:Nat) (listed:Array Bool) (a:Act) (w:World),IN P ops Q ks fuel listed a w->wpAnyIn (nM ρ) 0 P .any ops Q fuel listed a w
 |0,_,_,_,h=>h
 |fuel+1,_,_,_,h=>⟨h.1,fun i hi=>qEv b (fun a' w' h'=>ZJ b fuel _ a' w' h'.2) (h.2 i hi)⟩
theorem XM{S:World->Prop}{i:Nat}{o:Oper}{v:Value}{a:Act}(e:YieldsIf P ops S o v a)(hi:ops[i]? =some o)
  {K:Act->World->Prop} {w:World} (c:S w) (h:K (a.put o.dst v) w):nY P ops Q i K a w:=by
 unfold nY
 simp only[hi]
 rcases e with ⟨b,d⟩|⟨b,rfl⟩
 .simp only[b,jE,d w c,Oper.uponIn];exact h
 simp only[b,j9,jC];exact h
theorem qOn{S:World->Prop}{j:Nat}{oi oj:Oper}{v:Value}(z:ops[j]? =some oj)(s:oi.apart ops oj=true)
  (t:∀cs b,oi.op≠ .select cs b) (y:∀cs b,oj.op≠ .select cs b)
  (o:∀c a w,Q (.panic c) (a.put oi.dst v) w->Q (.panic c) a w) {K:Act->World->Prop} {a:Act} {w:World}
  (k:YieldsIf P ops S oi v a) (h:nY P ops Q j K (a.put oi.dst v) w):
  nY P ops Q j (fun a' w'=>YieldsIf P ops S oi v a'/\K (a'.put oi.dst v) w') a w:=by
 obtain⟨p,n,q⟩:=Oper.apart_spec s
 have keep:∀(a:Act),YieldsIf P ops S oi v a->∀u,YieldsIf P ops S oi v (a.put oj.dst u):=fun a k u=>
  k.of_same (execOp_put oi t a oj.dst u q) (wanted_put oi a oj.dst u q)
 have keepD:∀d,YieldsIf P ops S oi v {a with defers:=d::a.defers}:=fun d=>k.of_same rfl rfl
 unfold nY at*
 simp only[z] at*
 rw[wanted_put oj a oi.dst v p] at h
 split
 .rename_i hw
  simp only[hw,jE] at h
  rw[execOp_put oj y a oi.dst v p] at h
  generalize (execOp a.eval oj).run P w=r at*
  cases r with
  |ok x w'=>
   cases x<;>simp only[Oper.uponIn] at h ⊢
   case value u=>exact⟨keep a k u,by rw[<-Act.put_comm a v u n];exact h⟩
   case skip=>exact⟨keep a k _,by rw[<-Act.put_comm a v undef n];exact h⟩
   case defer d=>
    refine⟨keep _ (keepD d) _,?_⟩
    rw[<-Act.put_comm _ v undef n,<-Act.put_defers]
    exact h
   case enter f args=>
    refine⟨h.1,CallsIn.mono h.2 fun e w'' g=> ?_⟩
    cases e with
    |returned u=>exact⟨keep a k u,by rw[<-Act.put_comm a v u n];exact g⟩
    |panicked c=>exact o _ _ _ g
    |outgrown=>exact g
   case row row args=>exact⟨h.1,RowsIn.mono h.2 fun u w'' g=>⟨keep a k u,by rw[<-Act.put_comm a v u n];exact g⟩⟩
   case round l f tmps assign body=>
    refine⟨h.1,RoundIn.mono h.2 fun e w'' g=> ?_⟩
    cases e with
    |returned u=>exact⟨keep a k u,by rw[<-Act.put_comm a v u n];exact g⟩
    |panicked c=>exact o _ _ _ g
    |outgrown=>exact g
  |halt x w'=>
   cases x<;>simp only[Oper.uponIn] at h ⊢
   case panic u=>exact o _ _ _ h
 rename_i hw
 simp only[hw] at h
 exact⟨keep a k _,by rw[<-Act.put_comm a v undef n];exact h⟩
def NH(ops:Array Oper)(k i:Nat):Bool:=
 match ops[k]? with
 |none=>true
 |some o=>o.after.any fun e=>Region.binds .any e&&e.on==i
theorem qKc{k i:Nat}(h:NH ops k i=true){listed:Array Bool}(hi:listed.getD i true=false):k∉Region.ready .any ops listed:=by
 intro f
 obtain⟨_,o,g,b⟩:=mem_ready.1 f
 simp only[NH,g] at h
 obtain⟨e,d,c⟩:=Array.any_eq_true'.1 h
 simp only[jJ,kF] at c
 have a:=b e d c.1
 rw[c.2] at a
 rcases hQ i listed.size with h'|h'
 .simp[h'] at hi a;rw[hi] at a;cases a
 simp[Array.getElem?_eq_none h'] at a
theorem UJ{ks:List (Nat×(World->Prop))}{l:Array Bool}{w:World}{i:Nat}(h:TS ks l w):TS ks (l.setIfInBounds i true) w:=by
 rw[UQ] at*
 intro p a
 rcases h p a with h|h
 .left
  by_cases hi:i=p.1
  .subst hi
   rcases hQ p.1 l.size with h'|h'
   .simp[h']
   simp[Array.getElem?_eq_none h'] at h
  rw[getD_set_ne false hi];exact h
 exact .inr h
theorem qPy{ks:List (Nat×(World->Prop))}{l:Array Bool}{w:World}{i j:Nat}(b:∀p∈ks,p.1≠i)(h:TS ks ((l.setIfInBounds i true).setIfInBounds j true) w):TS ks (l.setIfInBounds j true) w:=by
 by_cases hij:i=j
 .subst hij;simpa using h
 rw[UQ] at*
 intro p a
 rcases h p a with h|h
 .left
  by_cases hj:j=p.1
  .subst hj
   rcases hQ p.1 l.size with h'|h'
   .simp[h']
   simp[Array.getElem?_eq_none h'] at h;omega
  rw[getD_set_ne false hj] at h ⊢
  rw[getD_set_ne false (Ne.symm (b p a))] at h;exact h
 exact .inr h
theorem qKx{k i:Nat}{S:World->Prop}{ks:List (Nat×(World->Prop))}(z:(k,S)∈ks)(F:∀p∈ks,p.1≠i){oi:Oper}{v:Value}(y:NH ops k i=true)(hi:ops[i]? =some oi)(B:∀(j:Nat) (o:Oper) cs b,ops[j]? =some o->o.op≠ .select cs b)
  (Y:∀c a w,Q (.panic c) (a.put oi.dst v) w->Q (.panic c) a w):
  ∀(fuel:Nat) (listed:Array Bool) (a:Act) (w:World),listed.getD k false=false->
   (∀j oj,ops[j]? =some oj->j≠i->listed.getD j true=false->(∀e∈oj.after,Region.binds .any e=true->e.on≠i)->oi.apart ops oj=true)->
   i∈Region.ready .any ops listed->YieldsIf P ops S oi v a->TS ks listed w->
   IN P ops Q ks fuel (listed.setIfInBounds i true) (a.put oi.dst v) w->IN P ops Q ks (fuel+1) listed a w:=by
 have a1:k≠i:=F _ z
 have getS:∀{l:Array Bool} {w:World},l.getD k false=false->TS ks l w->S w:=fun D h=>by
  rcases UQ.1 h _ z with h|h
  .simp only at h;rw[D] at h;cases h
  exact h
 intro fuel
 induction fuel with
 |zero=>
  intro listed a w s _ f E t H
  refine⟨fun h=>(by rw[h] at f;cases f),fun j u=> ?_⟩
  by_cases d:j=i
  .subst d;exact XM E hi (getS s t) ⟨UJ t,H⟩
  have:=ready_mono u d
  rw[H.1] at this
  cases this
 |succ fuel ih=>
  intro listed a w s n f E t H
  refine⟨fun h=>(by rw[h] at f;cases f),fun j u=> ?_⟩
  by_cases d:j=i
  .subst d;exact XM E hi (getS s t) ⟨UJ t,H⟩
  have r:j≠k:=by
   rintro rfl
   exact qKc y (mem_ready.1 f).1 u
  have g:=H.2 j (ready_mono u d)
  obtain⟨x,oj,A,K⟩:=mem_ready.1 u
  have M:∀e∈oj.after,Region.binds .any e=true->e.on≠i:=fun e he Z R=>by
   have g:=K e he Z
   have D:=(mem_ready.1 f).1
   rw[R] at g
   rcases hQ i listed.size with h'|h'
   .simp[h'] at D g;rw[D] at g;cases g
   simp[Array.getElem?_eq_none h'] at g
  have V:=qOn A (n j oj A d x M) (fun cs b=>B i oi cs b hi) (fun cs b=>B j oj cs b A) Y E g
  have hfree':∀q ok,ops[q]? =some ok->q≠i->(listed.setIfInBounds j true).getD q true=false->
    (∀e∈ok.after,Region.binds .any e=true->e.on≠i)->oi.apart ops ok=true:=fun q ok hk y G U=>by
   refine n q ok hk y ?_ U
   by_cases r:j=q
   .subst r;exact x
   rw[getD_set_ne true r] at G;exact G
  have hk0':(listed.setIfInBounds j true).getD k false=false:=by rw[getD_set_ne false r];exact s
  refine NK (fun a' w' G=> ?_) V
  have hT':TS ks (listed.setIfInBounds j true) w':=qPy F G.2.1
  refine⟨hT',ih (listed.setIfInBounds j true) a' w' hk0' hfree' (ready_mono f (Ne.symm d)) G.1 hT' ?_⟩
  rw[Array.setIfInBounds_comm _ _ d]
  exact G.2.2
def QP(Q:Exit->Act->World->Prop):Prop:=∀c a w d v,Q (.panic c) (Act.put a d v) w->Q (.panic c) a w
theorem cP{K:Act->World->Prop}(h:QP Q):QP (Exit.then K Q):=h
theorem iN{id:Nat}(h:QP Q):QP (Exit.inBlock id Q):=h
theorem mJ{fn:Func}{R:Ending->World->Prop}:QP (bodyPost P fn R):=by
 rintro c a w d v ⟨b,e⟩
 refine⟨?_,e⟩
 cases d<;>exact b
def marks(l:List Nat)(n:Nat):Array Bool:=l.foldl (fun a i=>a.setIfInBounds i true) (Array.replicate n false)
def WA(P:Program)(n:Fr)(ops:Array Oper)(Q:Exit->Act->World->Prop)(ks:List (Nat×(World->Prop)))(fuel:Nat)(done:List Nat)(L:bK)(w:World):Prop:=
 TS ks (marks done ops.size) w->∀a,Fits n a L->IN P ops Q ks fuel (marks done ops.size) a w
theorem CS(l:List Nat)(i n:Nat):marks (l++[i]) n=(marks l n).setIfInBounds i true:=by simp[marks,gF]
theorem qTl{id:Nat}(d:DH ρ ops=true)(ks:List (Nat×(World->Prop)))(e:P.follows .mixedOrders=true)(st:St m own w)(h:∀w',w'.heap=w.heap->St m own w'->TS ks (marks [] ops.size) w'/\WA P n ops Q ks ops.size [] L w'):W ρ P n (.region id ops true) Q L w:=by
 intro a c
 have b:=h {w with drawn:=w.drawn+1} rfl (st.grow ⟨⟨rfl,rfl⟩,rfl,mP⟩ fun _ _=>rfl)
 exact wpIn_region_any e (ZJ d (ks:=ks) _ _ _ _ (b.2 b.1 a c))
theorem dO{id:Nat}(ks:List (Nat×(World->Prop)))(a:P.follows .mixedOrders=true)(st:St m own w)(h:∀w',w'.heap=w.heap->St m own w'->TS ks (marks [] ops.size) w'/\WA P n ops Q ks ops.size [] L w'):W none P n (.region id ops true) Q L w:=qTl rfl ks a st h
def nP(ops:Array Oper)(ks:List (Nat×(World->Prop)))(k i:Nat)(done:List Nat):Bool:=
 Region.noSelect ops&&Region.free .any ops (marks done ops.size) i&&(Region.ready .any ops (marks done ops.size)).contains i&&NH ops k i&&qDn ks i&& !((marks done ops.size).getD k false)
section
variable {ks:List (Nat×(World->Prop))}
theorem TL{k fuel:Nat}{S:World->Prop}{done:List Nat}{i:Nat}{o:Oper}{v:Value}{L':bK}(d:ops[i]? =some o)(g:nP ops ks k i done=true)(b:(k,S)∈ks)(p:QP Q)
  (q:∀a,Fits n a L->YieldsIf P ops S o v a) (l:∀a,Fits n a L->Fits n (a.put o.dst v) L') (h:WA P n ops Q ks fuel (done++[i]) L' w):WA P n ops Q ks (fuel+1) done L w:=by
 simp only[nP,jJ,fV] at g
 obtain⟨⟨⟨⟨⟨s1,s2⟩,r⟩,s⟩,t⟩,u⟩:=g
 intro e a f
 have hT':TS ks (marks (done++[i]) ops.size) w:=by rw[CS];exact UJ e
 have:=h hT' (a.put o.dst v) (l a f)
 rw[CS] at this
 exact qKx b (qKq t) s d (Region.noSelect_spec s1) (fun c a w=>p c a w _ _) fuel _ a w u (Region.free_spec d s2) (by simpa using r) (q a f) e this
theorem zJ{k fuel:Nat}{S:World->Prop}{done:List Nat}(i d:Nat)(op:Op)(v:Value)(s:dK ops L i=some (some d,op))(r:Nat.blt d n=true)
  (u:nP ops ks k i done=true) (c:(k,S)∈ks)
  (t:QP Q) (e:∀o:Oper,o.op=op->∀w,S w->(execOp (mQ L) o).run P w= .ok (.value v) w)
  (h:WA P n ops Q ks fuel (done++[i]) ((d,v)::L) w):WA P n ops Q ks (fuel+1) done L w:=by
 obtain⟨o,f,g,l,p,q⟩:=CU s
 exact TL f u c t (v:=v) (fun a b=> .inl ⟨b.wanted p,fun w' hw'=>by rw[b.exec q];exact e o l w' hw'⟩) (fun a b=>by rw[g];exact b.put r v) h
theorem qTq{k fuel:Nat}{S:World->Prop}{done:List Nat}(i d:Nat)(r:((ops[i]?).bind fun o=>(nO ops L o.guard).map fun b=>(o.dst,b))=some (some d,false))(q:Nat.blt d n=true)
  (t:nP ops ks k i done=true) (f:(k,S)∈ks)
  (s:QP Q) (h:WA P n ops Q ks fuel (done++[i]) ((d,undef)::L) w):WA P n ops Q ks (fuel+1) done L w:=by
 obtain⟨o,g,l⟩:=jK.1 r
 obtain⟨b,p,c⟩:=kA.1 l
 simp only[Prod.mk.injEq] at c
 obtain⟨c,rfl⟩:=c
 exact TL g t f s (v:=undef) (fun a e=> .inr ⟨e.wanted p,rfl⟩) (fun a e=>by rw[c];exact e.put q undef) h
theorem aZ{fuel:Nat}{done:List Nat}(i:Nat)(e:Region.ready .any ops (marks done ops.size)=[i])
  (h:eL P n ops Q i (fun L' w'=>TS ks (marks (done++[i]) ops.size) w'/\WA P n ops Q ks fuel (done++[i]) L' w') L w):WA P n ops Q ks (fuel+1) done L w:=by
 intro _ a k
 refine⟨fun d=>(by rw[e] at d;cases d),fun j c=> ?_⟩
 rw[e] at c
 simp only[gH] at c
 subst c
 refine NK (fun a' w' h'=> ?_) (h a k)
 obtain⟨L',f,b,g⟩:=h'
 have:=g b a' f
 rw[CS] at b
 rw[CS] at this
 exact⟨b,this⟩
theorem cO{fuel:Nat}{done:List Nat}(c:Region.ready .any ops (marks done ops.size)=[])(h:X n Q .normal L w):WA P n ops Q ks fuel done L w:=by
 intro _ a b
 cases fuel with
 |zero=>exact⟨c,h a b⟩
 |succ f=>exact⟨fun _=>h a b,(by rw[c];simp)⟩
theorem pH{fuel:Nat}{done:List Nat}{t:Nat}{b:Bool}(e:Bool)(d:iB L t=some (.bool e))(f:e=b)(h:WA P n ops Q ks fuel done ((t,.bool b)::L) w):WA P n ops Q ks fuel done L w:=by
 intro g a k
 refine h g a (k.sub ?_)
 intro u v c
 simp only[iB] at c
 cases hb:Nat.beq t u with
 |true=>
  simp only[hb,cond_true] at c
  have:=fD hb;subst this
  rw[d,f];exact c
 |false=>simp only[hb,cond_false] at c;exact c
end
theorem Inv.anti{m':Mem}(h:Inv m' w)(a:m.le m'):Inv m w:=⟨fun b o v c=>h.1 b o v (a.1 _ _ _ c),fun b x d=>h.2.1 b x (a.2.1 _ _ d),a.2.2▸h.2.2⟩
theorem Piece.holds_anti{m':Mem}{b:Nat}{o:Obj}(h:Piece.holds m' w (.blk b o))(a:m.le m'):Piece.holds m w (.blk b o):=by
 refine⟨h.1,fun q=> ?_,?_⟩
 .cases hc:m.cell b q with
  |none=>rfl
  |some v=>rw[<-h.2.1 q,a.1 _ _ _ hc]
 cases hc:m.obj b with
 |none=>rfl
 |some v=>rw[<-h.2.2,a.2.1 _ _ hc]
def DO(P:Program)(ops:Array Oper)(L:bK)(i:Nat):Option (Nat×Value):=
 match ops[i]? with
 |none=>none
 |some o=>match nO ops L o.guard with
  |some true=>bif oM L o.op then(match o.dst,qO P (execOp (mQ L) o) with
   |some d,some (.value v)=>some (d,v)
   |_,_=>none) else none
  |_=>none
theorem qDw{ks:List (Nat×(World->Prop))}{k fuel:Nat}{S:World->Prop}{done:List Nat}(i d:Nat)(v:Value)(c:DO P ops L i=some (d,v))(q:Nat.blt d n=true)(s:nP ops ks k i done=true)(p:(k,S)∈ks)(r:QP Q)
  (h:WA P n ops Q ks fuel (done++[i]) ((d,v)::L) w):WA P n ops Q ks (fuel+1) done L w:=by
 unfold DO at c
 cases g:ops[i]? with
 |none=>simp[g] at c
 |some o=>
  simp only[g] at c
  cases f:nO ops L o.guard with
  |none=>simp[f] at c
  |some b=>
   cases b with
   |false=>simp[f] at c
   |true=>
    simp only[f] at c
    cases l:oM L o.op with
    |false=>simp[l] at c
    |true=>
     simp only[l,cond_true] at c
     split at c
     .rename_i d' v' hd' he
      simp only[jG,Prod.mk.injEq] at c
      obtain⟨rfl,rfl⟩:=c
      exact TL g s p r (v:=v') (fun a e=> .inl ⟨e.wanted f,fun w' _=>by rw[e.exec l];exact xL he w'⟩) (fun a e=>by rw[hd'];exact e.put q v') h
     cases c
theorem qLw{ks:List (Nat×(World->Prop))}{k fuel:Nat}{S:World->Prop}{done:List Nat}{t:TypeId}{x:Operand}{b o:Nat}{cs:List Value}(i d:Nat)(v:Value)(l:dK ops L i=some (some d,.load t x))(f:Nat.blt d n=true)
  (r:nP ops ks k i done=true) (a:(k,S)∈ks) (c:QP Q) (e:∀w,S w->Inv m w) (z:bV L x=some (.pointer (some ⟨b,o,none⟩))) (p:MRow m b o cs) (y:pY P t cs=some v)
  (h:WA P n ops Q ks fuel (done++[i]) ((d,v)::L) w):WA P n ops Q ks (fuel+1) done L w:=by
 refine zJ i d _ v l f r a c (fun q c w' hw'=> ?_) h
 have g:=CY (P:=P) (w:=w') (t:=t) (b:=b) (o:=o) (cs:=cs) (v:=v) (fun j u s=>(e w' hw').cell (p j u s)) y
 simp[execOp,c,Instr.loadAt,cL z,Instr.sureAddr,g]
theorem YL{ks:List (Nat×(World->Prop))}{k fuel:Nat}{S:World->Prop}{done:List Nat}{t e:TypeId}{x:Operand}{b o:Nat}{c:Array Value}{f:Nat×Nat}(i d:Nat)(v:Value)(z:dK ops L i=some (some d,.load t x))(s:Nat.blt d n=true)
  (A:nP ops ks k i done=true) (a:(k,S)∈ks) (g:QP Q) (p:∀w,S w->Piece.holds m w (.blk b (.cells c e f))) (D:bV L x=some (.pointer (some ⟨b,o,none⟩))) (B:pY P t (c.toList.drop o)=some v)
  (h:WA P n ops Q ks fuel (done++[i]) ((d,v)::L) w):WA P n ops Q ks (fuel+1) done L w:=by
 refine zJ i d _ v z s A a g (fun q g w' hw'=> ?_) h
 have r:=(p w' hw').1
 have y:=CY (P:=P) (w:=w') (t:=t) (b:=b) (o:=o) (cs:=c.toList.drop o) (v:=v) (fun j u l=>by
  rw[List.getElem?_drop] at l
  simp only[World.cell?,r]
  simpa using l) B
 simp[execOp,g,Instr.loadAt,cL D,Instr.sureAddr,y]
theorem oI{α:Type}{ks:List (Nat×(World->Prop))}{k fuel:Nat}{S:World->Prop}{done:List Nat}{t e:TypeId}{x y:Operand}(i d:Nat)(c:Codec α){a:Option Addr}{cap:Nat}{l:List α}{kd:IntKind}{ix:Int}{z:α}(G:dK ops L i=some (some d,.indexAddr t x y))(E:Nat.blt d n=true)
  (H:nP ops ks k i done=true) (r:(k,S)∈ks) (s:QP Q)
  (K:bV L x=some (.slice a l.length cap)) (M:bV L y=some (.int kd ix)) (hi:qU P t=some (e,c.sz)) (u:RepS c m a cap l) (g:bS l ix=some z)
  (h:∀b o cs,c.rep m z cs->MRow m b o cs->WA P n ops Q ks fuel (done++[i]) ((d,.pointer (some ⟨b,o,none⟩))::L) w):WA P n ops Q ks (fuel+1) done L w:=by
 obtain⟨v,inf,A,B⟩:=xH hi
 unfold bS at g
 split at g
 .rename_i h0
  have f:ix.toNat<l.length:=(List.getElem?_eq_some_iff.1 g).1
  cases a with
  |none=>obtain⟨rfl,_⟩:=u.none_nil;simp at f
  |some p=>
   obtain⟨cs,D,F⟩:=u.2.2.2 _ _ g
   refine zJ i d _ _ G E H r s (fun q s w' _=> ?_) (h p.block (p.off+ix.toNat*c.sz) cs D F)
   have hlt':ix<(l.length:Int):=by omega
   simp[execOp,s,Instr.indexAt,cL K,cL M,asIntOf,run_underlying v,h0,hlt',sizeOf,typeInfo,A,B,CW (u.spot (fun e=>by rw[e] at f;simp at f))]
 cases g
end
end Go.Dc
namespace Go.Dc
end Go.Dc
namespace Go.Dc
section
variable {ρ:Option Nat} {P:Program} {n:Fr} {ops:Array Oper} {Q:Exit->Act->World->Prop} {i d:Nat} {L:bK} {w:World} {m:Mem} {own:List Piece} {N:bK->World->Prop}
def ID(P:Program)(t:TypeId):Option TypeId:=
 match P.underlying t with
 |some (.slice e)=>match P.underlying e with
  |some (.int .u8)=>some e
  |_=>none
 |_=>none
theorem QN{t e:TypeId}(h:ID P t=some e):P.underlying t=some (.slice e)/\P.underlying e=some (.int .u8):=by
 unfold ID at h
 split at h
 .rename_i e' he
  split at h
  .rename_i he';simp only[jG] at h;subst h;exact⟨he,he'⟩
  cases h
 cases h
theorem qQc{a:Option Addr}{cap:Nat}{l:List UInt8}(h:RepS cU8 m a cap l):∀p,a=some p->(p.spot=none\/l=[])/\MRow m p.block p.off (l.map fun b=> .int .u8 (b.toNat:Int)):=by
 rintro p rfl
 refine⟨h.2.2.1,fun j v d=> ?_⟩
 rw[List.getElem?_map] at d
 obtain⟨x,k,rfl⟩:=kA.1 d
 obtain⟨cs,f,g⟩:=h.2.2.2 j x k
 have c:cs=[.int .u8 (x.toNat:Int)]:=f
 subst c
 have:=g 0 _ rfl
 have e:cU8.sz=1:=rfl
 simp only[e,Nat.mul_one,gU] at this
 exact this
theorem qKm{t1 t2 e:TypeId}{x:Operand}{a:Option Addr}{cap:Nat}{l:List UInt8}(y:dK ops L i=some (some d,.convert t1 t2 x))(t:Nat.blt d n=true)(r:bV L x=some (.slice a l.length cap))
  (s:ID P t1=some e) (g:P.underlying t2=some .string) (st:St m own w) (o:RepS cU8 m a cap l) (h:N ((d,.string (oV l))::L) w):eL P n ops Q i N L w:=by
 obtain⟨c,f⟩:=QN s
 refine mS y t (fun q k=> ?_) h
 cases a with
 |none=>
  obtain⟨rfl,_⟩:=o.none_nil
  have b:(Conv.bytesToString (.slice none 0 cap)).run P w= .ok (.string (oV [])) w:=rfl
  simp[execOp,k,cL r,run_convert_bytes_string w t1 t2 e none _ _ c f g,b]
 |some p=>
  obtain⟨z,v⟩:=qQc o p rfl
  have u:=run_convert_bytes_back (P:=P) w t1 t2 e p cap l c f g (fun j b=>by
   rw[CW (z.resolve_right (fun e=>by rw[e] at b;simp at b))]
   exact st.inv.cell (v j _ (by simp[b])))
  simp[execOp,k,cL r,u,oV]
def bytesOf(s:BA):Option (List UInt8):=if s.size<=maxLen then some s.data.toList else none
theorem XL{t1 t2 e:TypeId}{x:Operand}{s:BA}{l:List UInt8}(M:dK ops L i=some (some d,.convert t1 t2 x))(K:Nat.blt d n=true)(g:bV L x=some (.string s))
  (p:ID P t2=some e) (y:P.underlying t1=some .string) (st:St m own w) (f:bytesOf s=some l)
  (h:∀b cap m' w',m.le m'->St m' own w'->RepS cU8 m' (some ⟨b,0,none⟩) cap l->N ((d,.slice (some ⟨b,0,none⟩) l.length cap)::L) w'):eL P n ops Q i N L w:=by
 obtain⟨G,H⟩:=QN p
 unfold bytesOf at f
 split at f
 .rename_i hmx
  simp only[jG] at f;subst f
  generalize hgc:grownCap w s.size 0 e=gc
  have z:s.size<=gc:=hgc▸grownCap_ge _ _ _ _
  have A:gc<=maxLen:=hgc▸grownCap_le_maxLen _ _ _ _ hmx
  generalize hcur:(s.data.map fun b=>Value.int .u8 (b.toNat:Int))++Array.replicate (gc-s.size) (.int .u8 0)=cur
  have u:(convert t1 t2 (.string s)).run P w= .ok (.slice (some ⟨w.heap.size,0,none⟩) s.size gc) (w.drew.alloc (.cells cur e (cur.size,cur.size+1))):=by
   have c:(Question.appendCap s.size 0 e).forced=false:=rfl
   have r:(Question.appendCap s.size 0 e).cut (w.tape w.drawn (Question.appendCap s.size 0 e))=gc:=hgc
   have a:(w.drew.alloc (.cells cur e)).heap[w.heap.size]? =some (.cells cur e):=by
    show(w.heap.push (.cells cur e))[w.heap.size]? =_
    simp
   have E:(w.drew.alloc (.cells cur e)).shape? w.heap.size=some (e,cur.size):=by
    unfold World.shape?
    rw[a]
   have t:∀k:Nat,(w.drew.alloc (.cells cur e)).freeze ⟨w.heap.size,k,none⟩ 1=w.drew.alloc (.cells cur e (k,k+1)):=fun k=>by
    unfold World.freeze World.alloc World.drew
    simp only[Nat.one_ne_zero,jC]
    congr 1
    apply Array.ext
    .simp
    intro j p y
    simp only[Array.getElem_modify]
    by_cases hj:w.heap.size=j
    .subst hj;simp
    have:j<w.heap.size:=by simp at p;omega
    simp[hj,Array.getElem_push_lt this]
   have B:(markStringish ⟨w.heap.size,0,none⟩).run P (w.drew.alloc (.cells cur e))= .ok () (w.drew.alloc (.cells cur e (cur.size,cur.size+1))):=by
    simp[markStringish,E,t]
   have D:(newRow e cur).run P w.drew= .ok ⟨w.heap.size,0,none⟩ (w.drew.alloc (.cells cur e)):=rfl
   have F:(Conv.stringToBytes e s).run P w= .ok (.slice (some ⟨w.heap.size,0,none⟩) s.size gc) (w.drew.alloc (.cells cur e (cur.size,cur.size+1))):=by
    unfold Conv.stringToBytes
    simp only[Sem.run_bind,run_choose,c,j9,jC,Result.andThen_ok,r,hcur]
    show((newRow e cur).run P w.drew).andThen _=_
    rw[D]
    simp only[Result.andThen_ok,B,Sem.run_pure]
   simp[convert,run_underlying y,run_underlying G,run_underlying H,F]
  have a:=st.alloc (w':=w.drew.alloc (.cells cur e (cur.size,cur.size+1))) (o:= .cells cur e (cur.size,cur.size+1)) ⟨⟨rfl,rfl⟩,rfl,mP⟩ rfl
  have c:=st.fresh_free
  have B:cur.toList.take (s.data.toList.map fun b=>Value.int .u8 (b.toNat:Int)).length=s.data.toList.map fun b=>Value.int .u8 (b.toNat:Int):=by
   rw[<-hcur,Array.toList_append,Array.toList_map,List.take_left]
  obtain⟨m',F,R,S,_⟩:=St.know (b:=w.heap.size) (cs:=s.data.toList.map fun b=>Value.int .u8 (b.toNat:Int)) a.tail (a.head_ne rfl) a.head.1 B (fun o v D=>by rw[c.1 o] at D;cases D)
  have t:RepS cU8 m' (some ⟨w.heap.size,0,none⟩) gc s.data.toList:=RepS.of_cells (by simpa using z) A (fun j x g=>by
   have r:=(List.getElem?_eq_some_iff.1 g).1
   have E:=(List.getElem?_eq_some_iff.1 g).2
   show List.take 1 (List.drop (j*1) _)=_
   rw[Nat.mul_one,<-List.map_drop,<-List.map_take,jH r,E]
   rfl) S
  have r:s.data.toList.length=s.size:=by simp
  refine mS M K (fun q E=> ?_) (h w.heap.size gc m' _ F R t)
  simp only[execOp,E,cL g,Sem.run_bind,u,Result.andThen_ok,Sem.run_pure,r]
 cases f
end
end Go.Dc
namespace Go.Dc
section
variable {ρ:Option Nat} {P:Program} {n:Fr} {ops:Array Oper} {Q:Exit->Act->World->Prop} {i d:Nat} {L:bK} {w:World} {m:Mem} {own:List Piece} {N:bK->World->Prop}
theorem NA{f:FuncId}{args:Array Value}{R:Ending->World->Prop}(I:Value->World->Prop)(a:∀v w',I v w'->R (.returned v) w')(h:Calls P f args w fun e w'=>∃v,e= .returned v/\I v w'):Calls P f args w R:=
 h.mono fun e w' ⟨v,b,hi⟩=>b▸a v w' hi
theorem pV{k:Nat}{fn:Func}{R:Ending->World->Prop}(rvs:List ResultVar)(vs:List Value)(a:fn.results=rvs.toArray)(b:ResAll P w L rvs vs)(h:R (.returned (uN vs)) w):X ⟨k,[]⟩ (bodyPost P fn R) .normal L w:=oT (P:=P) (fn:=fn) (R:=R) rvs vs a b h
end
end Go.Dc
end
namespace Go.Dc
section
def IT(P:Program)(fn:Func)(R:Ending->World->Prop):Exit->Act->World->Prop
 | .normal,a,w=>LeavesInM Fence.wide 0 P fn a.tmps R a.defers .returning w
 | .ret,a,w=>LeavesInM Fence.wide 0 P fn a.tmps R a.defers .returning w
 |_,_,_=>False
section
variable {ρ:Option Nat} {P:Program} {n:Fr} {ops:Array Oper} {Q:Exit->Act->World->Prop} {i d:Nat} {L:bK} {w:World} {m:Mem} {own:List Piece} {N:bK->World->Prop}
theorem qQr{f:FuncId}{fn:Func}{c:Code}{args:Array Value}{R:Ending->World->Prop}(l:P.funcs[f]? =some fn)(g:fn.body=some c){k:Nat}(o:fn.ntmps=k)(L:bK)
  (d:L.map (fun p=>(args[p.1]?))=L.map fun p=>some p.2) (b:Nat.ble args.size k=true) (h:W none P ⟨k,[]⟩ c (IT P fn R) L w):Calls P f args w R:=by
 refine callsIn_wide.1 (callsIn_of_wp_marks (F:=Fence.wide) (n:=0) l g trivial (wpIn_mono (h _ ⟨?_,rfl,?_⟩) ?_) rfl)
 .subst o
  have:args.size<=fn.ntmps:=kS b
  simp only[fW,fX];omega
 .intro t v r
  have:=(gX.1 d) (t,v) (wE r)
  have q:t<args.size:=(Array.getElem?_eq_some_iff.1 this).1
  simp only[Array.getElem?_append,q,jE]
  exact this
 intro e a w h
 cases e<;>first|exact h|exact h.elim
theorem DR{k D:Nat}{M:List Deferred}{fn:Func}{R:Ending->World->Prop}(st:St m (.blk D (.deferred (some []))::own) w)(h:∀w',St m own w'->X ⟨k,M⟩ (IT P fn R) .ret L w'):X ⟨k,IP D::M⟩ (IT P fn R) .ret L w:=by
 intro a g
 obtain⟨d,e,f⟩:=g
 have b:w.heap[D]? =some (.deferred (some [])):=st.head.1
 have c:=sE b
 have st':St m (.blk D (.deferred none)::own) (w.putObj D (.deferred none)):=
  St.set (o:= .deferred (some [])) (o':= .deferred none) st ⟨⟨rfl,rfl⟩,rfl,mP⟩ (by simp[World.putObj,c]) (fun k _ l=>by simp[World.putObj,Array.getElem?_setIfInBounds,Ne.symm l])
 have st':=st'.tail
 have:=h _ st' {a with defers:=M} ⟨d,rfl,f⟩
 show LeavesInM Fence.wide 0 P fn a.tmps R a.defers .returning w
 rw[e]
 exact⟨by simp,.inl ⟨D,_,rfl,run_takeDeferred b,this⟩⟩
theorem DS{k:Nat}{fn:Func}{R:Ending->World->Prop}(rvs:List ResultVar)(vs:List Value)(e:fn.results=rvs.toArray)(f:ResAll P w L rvs vs)(h:R (.returned (uN vs)) w):X ⟨k,[]⟩ (IT P fn R) .ret L w:=by
 intro a d
 obtain⟨b,c⟩:=oT (P:=P) (fn:=fn) (R:=R) rvs vs e f h a d
 show LeavesInM Fence.wide 0 P fn a.tmps R a.defers .returning w
 rw[b]
 exact c
structure LoopQ where
 fn:Nat
 tmps:Array Value
 ps:Array Tmp
 assign:Code
 body:Code
 D:Nat
def xV:List Code->Nat->Option Code
 |_,0=>none
 |js,k+1=>js[k]?
def sZ(q:LoopQ)(s:LoopState)(pe:Option Code):Loop:={state:=s,pending:=pe,fn:=q.fn,tmps:=q.tmps,params:=q.ps,assign:=q.assign,body:=q.body,defers:=q.D}
def sJ(l:Nat)(q:LoopQ)(js:List Code)(j:Nat):Piece:= .blk l (.loop (sZ q (if j=0 then .ready else .done) (xV js j)))
def IH(l:Nat)(q:LoopQ):Piece:= .blk l (.loop (sZ q .busy none))
def IG(D:Nat):Piece:= .blk D (.deferred (some []))
def FitsT(sz:Nat)(T:Array Value)(L:bK):Prop:=T.size=sz/\∀t v,iB L t=some v->T[t]? =some v
theorem St.setLoop{l:Nat}{r:Loop}(r':Loop)(st:St m (.blk l (.loop r)::own) w):St m (.blk l (.loop r')::own) (w.putObj l (.loop r')):=by
 have a:=sE st.head.1
 exact St.set (o:= .loop r) (o':= .loop r') st ⟨⟨rfl,rfl⟩,rfl,mP⟩ (by simp[World.putObj,a]) (fun k _ b=>by simp[World.putObj,Array.getElem?_setIfInBounds,Ne.symm b])
theorem CV {f : FuncId} {fn : Func} (c : P.funcs[f]? = some fn) (h : (fn.name == "runtime.NumGoroutine", fn.body.isNone) = (false, false)) (args : Array Value) (w : World) : (callFunc f args).run P w = .ok (.enter f args) w := by
 simp only[Prod.mk.injEq] at h
 have a : ¬ fn.name = "runtime.NumGoroutine" := by simpa using h.1
 have b:¬fn.body=none:=fun e=>by rw[e] at h;simp at h
 simp[callFunc,c,a,b]
def UZ(l:Nat)(P:Program)(n:Fr)(Q:Exit->Act->World->Prop)(L:bK)(w:World):Prop:=
 ∃j w',(Instr.endLoop l).run P w= .ok j w'/\match j with
  |none=>X n Q .normal L w'
  |some c=>W none P n c Q L w'
theorem qMy{l:Nat}{q:LoopQ}{js:List Code}(j:Nat)(st:St m (sJ l q js j::own) w)(b:xV js j=none)(h:∀w',St m own w'->X n Q .normal L w'):UZ l P n Q L w:=by
 have c:=st.head.1
 have a:(sZ q (if j=0 then LoopState.ready else LoopState.done) (xV js j)).state≠LoopState.busy:=by simp only[sZ];split<;>simp
 exact⟨xV js j,_,run_endLoop (P:=P) c a,by rw[b];exact h _ (St.setLoop _ st).tail⟩
theorem qMz{l:Nat}{q:LoopQ}{js:List Code}(j:Nat){c:Code}(st:St m (sJ l q js j::own) w)(b:xV js j=some c)(h:∀w',St m own w'->W none P n c Q L w'):UZ l P n Q L w:=by
 have d:=st.head.1
 have a:(sZ q (if j=0 then LoopState.ready else LoopState.done) (xV js j)).state≠LoopState.busy:=by simp only[sZ];split<;>simp
 exact⟨xV js j,_,run_endLoop (P:=P) d a,by rw[b];exact h _ (St.setLoop _ st).tail⟩
theorem qLe{g:Operand}{ps:Array Tmp}{assign body:Code}{f:Nat}{cap:Array Value}(js:List Code)(u:bV L g=some (.func (.func f) #[] cap))(eg:∀args w,(callFunc f args).run P w= .ok (.enter f args) w)(st:St m own w)
  (h:∀(q:LoopQ) (l:Nat) (w':World),q.ps=ps->q.assign=assign->q.body=body->FitsT n.sz q.tmps L->St m (sJ l q js 0::IG q.D::own) w'->
   Calls P f (#[.func (.yield l) #[] #[]]++cap) w' fun e w''=>∃v,e= .returned v/\UZ l P ⟨n.sz,IP q.D::n.marks⟩ Q L w''):
  W none P n (.rangeFunc g ps assign body) Q L w:=by
 intro a b
 have r:=b.ev u
 refine wpIn_rangeFunc fun fn _=> ?_
 obtain⟨q,hq⟩:∃q:LoopQ,q={fn,tmps:=a.tmps,ps,assign,body,D:=w.heap.size}:=⟨_,rfl⟩
 have s1:=st.alloc (w':=w.alloc (.deferred (some []))) (o:= .deferred (some [])) ⟨⟨rfl,rfl⟩,rfl,mP⟩ rfl
 have s2:=s1.alloc (w':=(w.alloc (.deferred (some []))).alloc (.loop (sZ q .ready none))) (o:= .loop (sZ q .ready none)) ⟨⟨rfl,rfl⟩,rfl,mP⟩ rfl
 have s:(w.alloc (.deferred (some []))).heap.size=w.heap.size+1:=World.size_alloc _ _
 rw[s] at s2
 have k:q.D=w.heap.size:=by rw[hq]
 have p:=h q (w.heap.size+1) _ (by rw[hq]) (by rw[hq]) (by rw[hq]) (by rw[hq];exact⟨b.1,b.2.2⟩) (by rw[IG,k];exact s2)
 obtain⟨W1,hW1⟩:∃W1,(w.alloc (.deferred (some []))).alloc (.loop (sZ q .ready none))=W1:=⟨_,rfl⟩
 rw[hW1] at p
 refine⟨w.heap.size+1,[IP w.heap.size],W1,{target:= .fn (.func f) cap,args:= #[.func (.yield (w.heap.size+1)) #[] #[]]},W1,f,#[.func (.yield (w.heap.size+1)) #[] #[]]++cap,W1,?_,?_,fun _ _=>trivial,?_,fun e=>by simp[nM,Fence.wide] at e,?_⟩
 .rw[<-hW1,hq];exact run_enterLoop_outer _ _ _ _ _
 .simp only[resolve,r]
  simp[go_sem]
 .simp[invoke,go_sem,eg]
 have hc':CallsIn (nM none) 0 P f (#[.func (.yield (w.heap.size+1)) #[] #[]]++cap) W1 _:=callsIn_wide.2 p
 refine CallsIn.mono hc' ?_
 rintro e w'' ⟨v,rfl,j,x,t,d⟩
 refine⟨j,x,t,?_⟩
 have fits:Fits ⟨n.sz,IP q.D::n.marks⟩ {a with defers:=[IP w.heap.size]++a.defers} L:=⟨b.1,by simp[b.2.1,k],b.2.2⟩
 cases j with
 |none=>exact d _ fits
 |some c=>exact d _ fits
def UI(P:Program)(l:Nat)(body:Code)(R:Ending->World->Prop):Exit->Act->World->Prop:=
 Exit.then (fun a₁ w₁=>∃w₂,(Instr.beginRound l).run P w₁= .ok () w₂/\body.wpIn (nM (some l)) 0 P (roundPost P l R) a₁ w₂) (fun _ _ _=>False)
theorem qEh{l:Nat}{q:LoopQ}{js:List Code}{body:Code}{R:Ending->World->Prop}(st:St m (sJ l q js 0::own) w)(h:∀w',St m (IH l q::own) w'->W (some l) P n body (roundPost P l R) L w'):X n (UI P l body R) .normal L w:=by
 intro a b
 exact⟨_,run_beginRound (P:=P) st.head.1 rfl,h _ (St.setLoop _ st) a b⟩
theorem qJw{l:Nat}{q:LoopQ}(js:List Code)(st:St m (IH l q::own) w):∃w',(Instr.endRound l none).run P w= .ok (.bool true) w'/\St m (sJ l q js 0::own) w':=
 ⟨_,run_endRound (P:=P) none st.head.1,St.setLoop (sZ q .ready none) st⟩
theorem qJz{l:Nat}{q:LoopQ}{js:List Code}(k:Nat){c:Code}(a:js[k]? =some c)(st:St m (IH l q::own) w):∃w',(Instr.endRound l (some c)).run P w= .ok (.bool false) w'/\St m (sJ l q js (k+1)::own) w':=
 ⟨_,run_endRound (P:=P) (some c) st.head.1,by have:=St.setLoop (sZ q .done (some c)) st;simp only[sJ,xV,a];exact this⟩
theorem qBm{l:Nat}{q:LoopQ}(js:List Code){R:Ending->World->Prop}(st:St m (IH l q::own) w)(h:∀w',St m (sJ l q js 0::own) w'->R (.returned (.bool true)) w'):X n (roundPost P l R) .normal L w:=by
 obtain⟨w',a,b⟩:=qJw (P:=P) js st
 exact fun _ _=>⟨_,w',a,h w' b⟩
theorem qCf{l id:Nat}{q:LoopQ}(js:List Code)(k:Nat){R:Ending->World->Prop}(c:js[k]? =some (.exit id))(st:St m (IH l q::own) w)(h:∀w',St m (sJ l q js (k+1)::own) w'->R (.returned (.bool false)) w'):X n (roundPost P l R) (.exit id) L w:=by
 obtain⟨w',a,b⟩:=qJz (P:=P) k c st
 exact fun _ _=>⟨_,w',a,h w' b⟩
def EG:List Nat->List Value->bK->bK
 |p::ps,v::vs,L=>EG ps vs ((p,v)::L)
 |_,_,L=>L
theorem FitsT.set{sz:Nat}{T:Array Value}{L:bK}(h:FitsT sz T L){p:Nat}(d:p<sz)(v:Value):FitsT sz (T.setIfInBounds p v) ((p,v)::L):=by
 obtain⟨b,c⟩:=h
 refine⟨by simp[b],fun t u a=> ?_⟩
 simp only[iB] at a
 by_cases hpt:p=t
 .subst hpt
  simp at a;subst a
  simp[Array.getElem?_setIfInBounds,b,d]
 have:Nat.beq p t=false:=by cases hb:Nat.beq p t<;>simp_all [Nat.beq_eq]
 rw[this] at a
 simp[Array.getElem?_setIfInBounds,hpt,c t u a]
theorem FitsT.zip{sz:Nat}:∀(ps:List Nat) (vs:List Value) {T:Array Value} {L:bK},FitsT sz T L->(ps.all fun p=>Nat.blt p sz)=true->
  FitsT sz ((ps.zip vs).foldl (fun t (p,v)=>t.setIfInBounds p v) T) (EG ps vs L)
 |[],_,_,_,h,_=>by simpa[EG] using h
 |_::_,[],_,_,h,_=>by simpa[EG] using h
 |p::ps,v::vs,T,L,h,a=>by
  simp only[List.all_cons,jJ] at a
  simp only[List.zip_cons_cons,kC,EG]
  exact FitsT.zip ps vs (h.set (by simpa[Nat.blt_eq] using a.1) v) a.2
theorem qAh{l sz:Nat}{x:Operand}{xs:Array Operand}{ts:Array TypeId}{q:LoopQ}{js:List Code}{L0:bK}{ps:Array Nat}{assign body:Code}(vs:List Value)(K:dK ops L i=some (some d,.call {callee:= .value x,args:=xs,argTypes:=ts}))(H:Nat.blt d n=true)
  (S:bV L x=some (.func (.yield l) #[] #[])) (r:xs.map (mQ L)=vs.toArray) (G:FitsT sz q.tmps L0) (M:q.ps=ps) (D:q.assign=assign) (E:q.body=body) (f:vs.length=ps.size) (s:(ps.toList.all fun p=>Nat.blt p sz)=true) (st:St m (sJ l q js 0::own) w)
  (h:∀R:Ending->World->Prop,(∀b w',N ((d,.bool b)::L) w'->R (.returned (.bool b)) w')->W (some l) P ⟨sz,[]⟩ assign (UI P l body R) (EG ps.toList vs L0) w):eL P n ops Q i N L w:=by
 subst M D E
 obtain⟨o,u,y,z,A,B⟩:=CU K
 intro a g
 unfold nY
 simp only[u,g.wanted A,jE]
 have U:=run_yield (P:=P) (args:=vs.toArray) st.head.1 (by simp only[sZ];simp[f])
 have k:(execOp (mQ L) o).run P w=(Instr.yield l vs.toArray).run P w:=by
  simp[execOp,z,resolve,cL S,r,invoke,go_sem]
 rw[g.exec B,k,U,Oper.uponIn_round]
 refine⟨fun e=>by simp[Fence.wide] at e,roundIn_of_wpIn trivial ?_⟩
 have f:=FitsT.zip q.ps.toList vs G s
 have c:(q.ps.zip vs.toArray).foldl (fun tmps (t,a)=>tmps.setIfInBounds t a) q.tmps=(q.ps.toList.zip vs).foldl (fun t (p,v)=>t.setIfInBounds p v) q.tmps:=by
  rw[<-Array.foldl_toList,Array.toList_zip]
 refine h _ ?_ {tmps:=_,defers:=[]} ⟨?_,rfl,?_⟩
 .intro b w' F
  rw[y]
  exact⟨_,g.put H _,F⟩
 .show((q.ps.zip vs.toArray).foldl (fun tmps (t,a)=>tmps.setIfInBounds t a) q.tmps).size=_
  rw[c];exact f.1
 intro t v r
 show((q.ps.zip vs.toArray).foldl (fun tmps (t,a)=>tmps.setIfInBounds t a) q.tmps)[t]? =_
 rw[c];exact f.2 t v r
end
end
end Go.Dc
section
namespace Go.Dc
def dP{κ ν:Type}[DecidableEq κ]:List (κ×ν)->κ->Option ν
 |[],_=>none
 |p::l,k=>if k=p.1 then some p.2 else dP l k
def nS{κ ν:Type}[DecidableEq κ]:List (κ×ν)->κ->ν->List (κ×ν)
 |[],k,v=>[(k,v)]
 |p::l,k,v=>if k=p.1 then(k,v)::l else p::nS l k v
class KOrd(κ:Type) where
 lt:κ->κ->Bool
instance:KOrd Int:=⟨fun a b=>decide (a<b)⟩
instance:KOrd BA:=⟨fun a b=>decide (a.data.toList<b.data.toList)⟩
instance{α β:Type}[DecidableEq α][KOrd α][KOrd β]:KOrd (α×β):=⟨fun a b=>KOrd.lt a.1 b.1||(decide (a.1=b.1)&&KOrd.lt a.2 b.2)⟩
def mins{κ ν:Type}[KOrd κ]:List (κ×ν)->κ->ν->List (κ×ν)
 |[],k,v=>[(k,v)]
 |p::l,k,v=>if KOrd.lt k p.1 then(k,v)::p::l else p::mins l k v
def mset{κ ν:Type}[DecidableEq κ][KOrd κ](l:List (κ×ν))(k:κ)(v:ν):List (κ×ν):=
 if(dP l k).isSome then l.map fun p=>if k=p.1 then(k,v) else p else mins l k v
theorem SD{κ ν:Type}[DecidableEq κ]{l:List (κ×ν)}{k:κ}:dP l k=none↔k∉l.map (·.1):=by
 induction l with
 |nil=>simp[dP]
 |cons p l a=>
  simp only[dP,kJ,jI,not_or]
  split
  .rename_i h;simp[h]
  rename_i h;rw[a];exact⟨fun g=>⟨h,g⟩,fun g=>g.2⟩
theorem SV{κ ν:Type}[DecidableEq κ]{l:List (κ×ν)}{k:κ}{v:ν}(a:(l.map (·.1)).Nodup):dP l k=some v↔(k,v)∈l:=by
 induction l with
 |nil=>simp[dP]
 |cons p l b=>
  simp only[kJ,gY] at a
  simp only[dP,jI]
  split
  .rename_i h
   subst h
   constructor
   .intro e;left;simp at e;rw[<-e]
   rintro(e|e)
   .rw[<-e]
   exact absurd (gN (f:=(·.1)) e) a.1
  rename_i h
  rw[b a.2]
  constructor
  .intro e;exact .inr e
  rintro(e|e)
  .exact absurd (congrArg Prod.fst e) h
  exact e
theorem SH{κ ν:Type}[DecidableEq κ]{l l':List (κ×ν)}(a:l'.Perm l)(b:(l'.map (·.1)).Nodup)(k:κ):dP l' k=dP l k:=by
 have hn':(l.map (·.1)).Nodup:=(a.map _).nodup_iff.1 b
 cases h:dP l k with
 |none=>rw[SD] at h ⊢;exact fun g=>h ((a.map _).mem_iff.1 g)
 |some v=>rw[SV hn'] at h;rw[SV b];exact a.mem_iff.2 h
theorem qBe{κ ν:Type}[DecidableEq κ]{l:List (κ×ν)}{k:κ}{v:ν}(h:dP l k=none):nS l k v=l++[(k,v)]:=by
 induction l with
 |nil=>rfl
 |cons p l a=>
  simp only[dP] at h
  split at h
  .cases h
  rename_i hk;simp[nS,hk,a h]
theorem qAd{κ ν:Type}[DecidableEq κ]{l:List (κ×ν)}{k:κ}{v:ν}(a:(l.map (·.1)).Nodup)(h:dP l k≠none):nS l k v=l.map fun p=>if k=p.1 then(k,v) else p:=by
 induction l with
 |nil=>exact absurd rfl h
 |cons p l c=>
  simp only[kJ,gY] at a
  simp only[nS,kJ]
  by_cases hk:k=p.1
  .simp only[hk,jE]
   congr 1
   rw[<-hk]
   refine(List.map_congr_left fun q b=> ?_).trans (List.map_id _)|>.symm
   have:k≠q.1:=fun e=>a.1 (by rw[<-hk,e];exact gN (f:=(·.1)) b)
   simp[this]
  simp only[hk,jC]
  rw[c a.2 (by simpa[dP,hk] using h)]
theorem qAq{κ ν:Type}[KOrd κ](l:List (κ×ν))(k:κ)(v:ν):(mins l k v).Perm ((k,v)::l):=by
 induction l with
 |nil=>exact .refl _
 |cons p l a=>
  simp only[mins]
  split
  .exact .refl _
  exact(List.Perm.cons p a).trans (.swap _ _ _)
theorem yY{κ ν:Type}[DecidableEq κ][KOrd κ]{l l':List (κ×ν)}(a:l'.Perm l)(c:(l'.map (·.1)).Nodup)(k:κ)(v:ν):(nS l' k v).Perm (mset l k v):=by
 have b:=SH a c k
 unfold mset
 cases h:dP l k with
 |none=>
  rw[qBe (by rw[b,h])]
  simp only[Option.isSome_none,j9,jC]
  exact(List.perm_append_comm.trans (List.Perm.cons _ a)).trans (qAq l k v).symm
 |some u=>
  rw[qAd c (by rw[b,h];simp)]
  simp only[Option.isSome_some,jE]
  exact a.map _
theorem CR{κ ν:Type}[DecidableEq κ]{l:List (κ×ν)}(c:(l.map (·.1)).Nodup)(k:κ)(v:ν):((nS l k v).map (·.1)).Nodup:=by
 cases h:dP l k with
 |none=>
  rw[qBe h,List.map_append,List.nodup_append]
  refine⟨c,by simp,?_⟩
  intro a f b d e
  simp at d;subst d e
  exact SD.1 h f
 |some u=>
  rw[qAd c (by rw[h];simp)]
  have:(l.map fun p=>if k=p.1 then(k,v) else p).map (·.1)=l.map (·.1):=by
   rw[List.map_map]
   refine List.map_congr_left fun q _=> ?_
   simp only[Function.comp]
   split
   .rename_i e;exact e
   rfl
  rw[this];exact c
def qF(agg:Bool)(cs:List Value):Value:=bif agg then .agg cs.toArray else cs.headD undef
def MapL{κ ν:Type}(ek:κ->Value)(c:Codec ν)(agg:Bool)(m:Mem):List MapEntry->List (κ×ν)->Prop
 |[],l=>l=[]
 |e::es,l=>∃k v l',l=(k,v)::l'/\e.key=ek k/\(∃cs,c.rep m v cs/\e.val=qF agg cs)/\MapL ek c agg m es l'
def qGa(es:List MapEntry)(ck:Nat):Prop:=(∀e∈es,e.born<ck)/\(es.map (·.born)).Nodup
def MapQ{κ ν:Type}(ek:κ->Value)(c:Codec ν)(agg:Bool)(m:Mem)(q:Option Nat)(es:Array MapEntry)(ck:Nat)(o:Option (List (κ×ν))):Prop:=
 match q with
 |none=>o=none
 |some _=>∃l l',o=some l/\l'.Perm l/\(l'.map (·.1)).Nodup/\MapL ek c agg m es.toList l'/\qGa es.toList ck
theorem MapL.mono{κ ν:Type}{ek:κ->Value}{c:Codec ν}{agg:Bool}{m m':Mem}(a:m.le m'):∀{es:List MapEntry} {l:List (κ×ν)},MapL ek c agg m es l->MapL ek c agg m' es l
 |[],_,h=>h
 |_::_,_,⟨k,v,l',b,d,⟨cs,e,f⟩,g⟩=>⟨k,v,l',b,d,⟨cs,c.mono _ _ _ _ a e,f⟩,g.mono a⟩
theorem MapQ.mono{κ ν:Type}{ek:κ->Value}{c:Codec ν}{agg:Bool}{m m':Mem}{q:Option Nat}{es:Array MapEntry}{ck:Nat}{o:Option (List (κ×ν))}(h:MapQ ek c agg m q es ck o)(a:m.le m'):MapQ ek c agg m' q es ck o:=by
 cases q with
 |none=>exact h
 |some b=>obtain⟨l,l',d,e,f,g,k⟩:=h;exact⟨l,l',d,e,f,g.mono a,k⟩
def uT{κ:Type}[DecidableEq κ](k:κ):List κ->List MapEntry->Nat->Option (Nat×Value)
 |k'::ks,e::es,i=>if k=k' then some (i,e.val) else uT k ks es (i+1)
 |_,_,_=>none
structure KeyOK{κ:Type}[DecidableEq κ](P:Program)(kt:TypeId)(ek:κ->Value):Prop where
 find:∀(k:κ) (ks:List κ) (es:List MapEntry) (w:World),es.map (·.key)=ks.map ek->(Instr.findKey kt (ek k) es).run P w= .ok (uT k ks es 0) w
 chk:∀(e:Bool) (a:κ) (w:World),(Instr.checkKey e 10000 kt (ek a)).run P w= .ok () w
 stay:∀(a:κ) (w:World),(Instr.keyThatStays (ek a) (ek a)).run P w= .ok (ek a) w
 inj:∀a b,ek a=ek b->a=b
theorem qSl(a b:Int):(a==b)=decide (a=b):=by rw[jY];simp
theorem RH(a b:BA):(a==b)=decide (a=b):=by
 rw[jY]
 have:=Go.MapKept.bytes_beq a b
 simpa using this
theorem YV{κ:Type}[DecidableEq κ]{dd:TypeDesc}{ek:κ->Value}(c:∀a b,Instr.sameNow dd (ek a) (ek b)=some (decide (a=b)))(k:κ):∀(ks:List κ) (es:List MapEntry) (j:Nat),es.map (·.key)=ks.map ek->Instr.findNow dd (ek k) es j=some (uT k ks es j)
 |[],[],j,_=>rfl
 |[],e::es,j,h=>by simp at h
 |k'::ks,[],j,h=>by simp at h
 |k'::ks,e::es,j,h=>by
  simp only[kJ,kL] at h
  simp only[Instr.findNow,h.1,c,uT]
  by_cases hkk:k=k'
  .subst hkk;simp
  simp only[hkk,decide_false,jC]
  exact YV c k ks es (j+1) h.2
theorem qUp{P:Program}{kt:TypeId}{q q':IntKind}(h:P.underlying kt=some (.int q))(e:Bool)(z:Int)(w:World):∀n,(Instr.checkKey e (n+1) kt (.int q' z)).run P w= .ok () w:=fun n=>by simp[Instr.checkKey,run_underlying h]
theorem qUo{P:Program}{kt:TypeId}(h:P.underlying kt=some .string)(e:Bool)(z:BA)(w:World):∀n,(Instr.checkKey e (n+1) kt (.string z)).run P w= .ok () w:=fun n=>by simp[Instr.checkKey,run_underlying h]
theorem qEm{κ:Type}[DecidableEq κ]{P:Program}{kt:TypeId}{ek:κ->Value}{d:TypeDesc}(o:P.underlying kt=some d)(c:∀a b,Instr.sameNow d (ek a) (ek b)=some (decide (a=b)))
  (l:∀(e:Bool) (a:κ) (w:World),(Instr.checkKey e 10000 kt (ek a)).run P w= .ok () w) (g:∀n a,Instr.sameBits n (ek a) (ek a)=true):KeyOK P kt ek where
 find k ks es w h:=by simp[Instr.findKey,run_underlying o,YV c k ks es 0 h]
 chk:=l
 stay a w:=by simp[Instr.keyThatStays,g]
 inj a b h:=by
  have f:=c a b
  rw[h,c b b] at f
  simpa using f.symm
theorem iU{P:Program}{kt:TypeId}{q:IntKind}(h:P.underlying kt=some (.int q)):KeyOK P kt (fun n:Int=>Value.int q n):=
 qEm h (fun a b=>by simp[Instr.sameNow];exact qSl a b) (fun e v w=>qUp h e v w 9999) (fun n a=>by cases n<;>simp[Instr.sameBits])
theorem uR{P:Program}{kt:TypeId}(h:P.underlying kt=some .string):KeyOK P kt (fun s:BA=>Value.string s):=
 qEm h (fun a b=>by simp[Instr.sameNow];exact RH a b) (fun e v w=>qUo h e v w 9999) (fun n a=>by cases n<;>simp[Instr.sameBits,RH])
section
variable {m:Mem} {κ ν:Type} {ek:κ->Value} {c:Codec ν} {agg:Bool}
theorem MapL.snoc:∀{es:List MapEntry} {l:List (κ×ν)} {e:MapEntry} {k:κ} {y:ν} {cs:List Value},MapL ek c agg m es l->e.key=ek k->c.rep m y cs->e.val=qF agg cs->MapL ek c agg m (es++[e]) (l++[(k,y)])
 |[],l,e,k,y,cs,h,a,b,d=>by
  simp only[MapL] at h;subst h
  exact⟨k,y,[],rfl,a,⟨cs,b,d⟩,rfl⟩
 |e'::es,l,e,k,y,cs,⟨k',v',l',f,g,n,o⟩,a,b,d=>by
  subst f
  exact⟨k',v',l'++[(k,y)],rfl,g,n,o.snoc a b d⟩
theorem HP:∀{es:List MapEntry} {l:List (κ×ν)},MapL ek c agg m es l->es.map (·.key)=(l.map (·.1)).map ek
 |[],l,h=>by simp only[MapL] at h;subst h;rfl
 |e::es,l,⟨k',v',l',a,b,_,d⟩=>by subst a;simp only[kJ,b,HP d]
theorem MapQ.new(ek:κ->Value)(c:Codec ν)(agg:Bool)(m:Mem)(b:Nat):MapQ ek c agg m (some b) #[] 0 (some []):=⟨[],[],rfl,.refl _,by simp,rfl,by simp[qGa]⟩
theorem MapQ.nil(ek:κ->Value)(c:Codec ν)(agg:Bool)(m:Mem)(es:Array MapEntry)(ck:Nat):MapQ ek c agg m none es ck (none:Option (List (κ×ν))):=rfl
end
section
variable {P:Program} {n:Fr} {ops:Array Oper} {Q:Exit->Act->World->Prop} {i d:Nat} {L:bK} {w:World} {m:Mem} {own:List Piece} {N:bK->World->Prop}
variable {κ ν:Type} [DecidableEq κ] {ek:κ->Value} {c:Codec ν} {agg:Bool}
theorem NB(k:κ):∀(es:List MapEntry) (l:List (κ×ν)) (j:Nat),MapL ek c agg m es l->
  ∃r,uT k (l.map (·.1)) es j=r/\match r with
   |none=>dP l k=none/\nS l k=fun v=>l++[(k,v)]
   |some (q,v)=>∃x cs,dP l k=some x/\c.rep m x cs/\v=qF agg cs/\j<=q/\q<j+es.length/\(∃e,es[q-j]? =some e/\e.key=ek k)/\
     ∀(y:ν) (cs':List Value) (f:MapEntry->MapEntry),c.rep m y cs'->(∀e,(f e).key=ek k/\(f e).val=qF agg cs')->MapL ek c agg m (es.modify (q-j) f) (nS l k y)
 |[],l,j,h=>by
  simp only[MapL] at h;subst h
  exact⟨none,rfl,rfl,by funext v;rfl⟩
 |e::es,l,j,h=>by
  obtain⟨k',v',l',rfl,p,⟨cs,s,t⟩,u⟩:=h
  simp only[kJ,uT]
  by_cases hkk:k=k'
  .subst hkk
   simp only[jE]
   refine⟨_,rfl,v',cs,by simp[dP],s,t,jP _,by simp,⟨e,by simp,p⟩,?_⟩
   intro y cs' f n b
   simp only[Nat.sub_self,List.modify_zero_cons,nS,jE]
   exact⟨k,y,l',rfl,(b e).1,⟨cs',n,(b e).2⟩,u⟩
  simp only[hkk,jC]
  obtain⟨r,G,a⟩:=NB k es l' (j+1) u
  refine⟨r,G,?_⟩
  cases r with
  |none=>
   obtain⟨d,g⟩:=a
   exact⟨by simp[dP,hkk,d],by funext v;simp[nS,hkk,g]⟩
  |some qv=>
   obtain⟨q,v⟩:=qv
   obtain⟨x,o,d,g,B,H,K,⟨A,D,E⟩,F⟩:=a
   have z:q-j=(q-(j+1))+1:=by omega
   refine⟨x,o,by simp[dP,hkk,d],g,B,by omega,by simp;omega,⟨A,by rw[z];simpa using D,E⟩,?_⟩
   intro y cs' f n b
   rw[z]
   simp only[List.modify_succ_cons,nS,if_neg hkk]
   exact⟨k',v',_,rfl,p,⟨cs,s,t⟩,F y cs' f n b⟩
def DN(P:Program)(t:TypeId):Option (TypeId×TypeId×Value):=
 match P.underlying t with
 |some (.map k e)=>match P.info? e with
  |some i=>i.zero.map fun z=>(k,e,z)
  |none=>none
 |_=>none
theorem QW{t kt et:TypeId}{z:Value}(h:DN P t=some (kt,et,z)):P.underlying t=some (.map kt et)/\∀w:World,(zeroValue et).run P w= .ok z w:=by
 unfold DN at h
 split at h
 .rename_i k e he
  split at h
  .rename_i inf hi
   obtain⟨z',b,a⟩:=kA.1 h
   simp only[Prod.mk.injEq] at a
   obtain⟨rfl,rfl,rfl⟩:=a
   exact⟨he,fun w=>by simp[zeroValue,typeInfo,hi,b]⟩
  cases h
 cases h
def aD(q:Option Nat)(es:Array MapEntry)(ck:Nat):Piece:=
 match q with
 |none=> .room none 0 0 0 0
 |some b=> .blk b (.map es ck)
def bC(o:Option (List (κ×ν)))(k:κ):Option ν:=o.bind fun l=>dP l k
def eA[KOrd κ](o:Option (List (κ×ν)))(k:κ)(v:ν):Option (Option (List (κ×ν))):=o.map fun l=>some (mset l k v)
theorem pF{t:TypeId}(c:dK ops L i=some (some d,.makeMap t none))(a:Nat.blt d n=true)(st:St m own w)
  (h:∀b w',St m (aD (some b) #[] 0::own) w'->N ((d,.map (some b))::L) w'):eL P n ops Q i N L w:=by
 refine mS (w':=w.alloc (.map #[] 0)) c a (fun q e=> ?_) (h w.heap.size _ (st.alloc ⟨⟨rfl,rfl⟩,rfl,mP⟩ rfl))
 simp[execOp,e,Instr.makeMap]
theorem qNd{t kt et:TypeId}{z:Value}(D:DN P t=some (kt,et,z))(p:KeyOK P kt ek){q:Option Nat}{es:Array MapEntry}{ck:Nat}{o:Option (List (κ×ν))}(F:Piece.holds m w (aD q es ck))(g:MapQ ek c agg m q es ck o)
  {zx:ν} {zcs:List Value} (G:c.rep m zx zcs) (B:z=qF agg zcs) (k:κ) (ok:Bool):
  ∃cs,c.rep m ((bC o k).getD zx) cs/\(Instr.lookup t (.map q) (ek k) ok).run P w= .ok (bif ok then .tuple #[qF agg cs,.bool (bC o k).isSome] else qF agg cs) w:=by
 obtain⟨u,y⟩:=QW D
 have main:∀(es:List MapEntry) (l:List (κ×ν)),MapL ek c agg m es l->∃cs r,c.rep m ((dP l k).getD zx) cs/\(Instr.findKey kt (ek k) es).run P w= .ok r w/\
   (match r with|some (_,v)=>v=qF agg cs/\(dP l k).isSome=true|none=>qF agg cs=z/\(dP l k).isSome=false):=by
  intro es l h
  obtain⟨r,g,d⟩:=NB (c:=c) (agg:=agg) k es l 0 h
  cases r with
  |none=>exact⟨zcs,none,by simp[d.1,G],by rw[p.find k _ es w (HP h),g],B.symm,by simp[d.1]⟩
  |some qv=>
   obtain⟨q,v⟩:=qv
   obtain⟨x,cs,e,f,a,_⟩:=d
   exact⟨cs,some (q,v),by simp[e,f],by rw[p.find k _ es w (HP h),g],a,by simp[e]⟩
 cases q with
 |none=>
  simp only[MapQ] at g
  subst g
  obtain⟨cs,r,e,f,a⟩:=main [] [] rfl
  refine⟨cs,by simpa[bC,dP] using e,?_⟩
  have n:=p.chk true k w
  cases r with
  |none=>cases ok<;>simp[Instr.lookup,run_underlying u,n,f,y,a.1,bC]
  |some r=>simp[dP] at a
 |some b=>
  obtain⟨H,l,rfl,s,A,h,_⟩:=g
  obtain⟨cs,r,e,f,a⟩:=main es.toList l h
  rw[SH s A] at e a
  refine⟨cs,by simpa[bC] using e,?_⟩
  have E:w.heap[b]? =some (.map es ck):=F.1
  have d:(getObj b).run P w= .ok (.map es ck) w:=by simp[getObj,Sem.run,E]
  have n:=p.chk es.isEmpty k w
  cases r with
  |none=>cases ok<;>simp[Instr.lookup,run_underlying u,d,n,f,y,a.1,a.2,bC]
  |some r=>
   obtain⟨_,v⟩:=r
   cases ok<;>simp[Instr.lookup,run_underlying u,d,n,f,a.1,a.2,bC]
theorem qT{t kt et:TypeId}{z:Value}{x y:Operand}{q:Option Nat}{es:Array MapEntry}{ck:Nat}{o:Option (List (κ×ν))}{k:κ}{ok:Bool}(p:dK ops L i=some (some d,.lookup t x y ok))(g:Nat.blt d n=true)
  (v:bV L x=some (.map q)) (A:bV L y=some (ek k)) (f:DN P t=some (kt,et,z)) (l:KeyOK P kt ek) (r:Piece.holds m w (aD q es ck)) (u:MapQ ek c agg m q es ck o)
  {zx:ν} {zcs:List Value} (B:c.rep m zx zcs) (a:z=qF agg zcs)
  (h:∀cs,c.rep m ((bC o k).getD zx) cs->N ((d,bif ok then .tuple #[qF agg cs,.bool (bC o k).isSome] else qF agg cs)::L) w):eL P n ops Q i N L w:=by
 obtain⟨cs,b,e⟩:=qNd f l r u B a k ok
 refine mS p g (fun q s=> ?_) (h cs b)
 simp[execOp,s,cL v,cL A,e]
theorem ZE{b:Nat}{o o':Obj}(a:w.heap[b]? =some o)(c:∀cs e f,o≠ .cells cs e f):(setObj b o').run P w= .ok () {w with heap:=w.heap.setIfInBounds b o'}:=by
 cases o<;>first|(exact absurd rfl (c _ _ _))|simp[setObj,Sem.run,a]
theorem HG[KOrd κ]{t kt et:TypeId}{z v:Value}{x y u:Operand}{q:Option Nat}{es:Array MapEntry}{ck:Nat}{o o':Option (List (κ×ν))}{k:κ}{yv:ν}{cs:List Value}(ho:dK ops L i=some (none,.mapUpdate t x y u))
  (hx:bV L x=some (.map q)) (hy:bV L y=some (ek k)) (hu:bV L u=some v) (hI:DN P t=some (kt,et,z)) (F:KeyOK P kt ek) (st:St m (aD q es ck::own) w) (H:MapQ ek c agg m q es ck o)
  (S:c.rep m yv cs) (hv:v=qF agg cs) (Z:eA o k yv=some o')
  (h:∀es' ck' w',St m (aD q es' ck'::own) w'->MapQ ek c agg m q es' ck' o'->N L w'):eL P n ops Q i N L w:=by
 obtain⟨V,h2⟩:=QW hI
 cases q with
 |none=>simp only[MapQ] at H;subst H;simp[eA] at Z
 |some b=>
  obtain⟨l0,l,rfl,s,g,Y,D,R⟩:=H
  simp only[eA,kK,jG] at Z
  subst Z
  have B:w.heap[b]? =some (.map es ck):=st.head.1
  have a1:=sE B
  have E:(getObj b).run P w= .ok (.map es ck) w:=by simp[getObj,Sem.run,B]
  have K:∀o',(setObj b o').run P w= .ok () {w with heap:=w.heap.setIfInBounds b o'}:=fun o'=>ZE B ae
  have G:∀o',St m (.blk b o'::own) {w with heap:=w.heap.setIfInBounds b o'}:=fun o'=>
   St.set (o:= .map es ck) st ⟨⟨rfl,rfl⟩,rfl,mP⟩ (by simp[a1]) (fun k _ F=>by simp[Array.getElem?_setIfInBounds,Ne.symm F])
  have hc:=F.chk false k w
  obtain⟨r,H,A⟩:=NB (c:=c) (agg:=agg) k es.toList l 0 Y
  have f:(Instr.findKey kt (ek k) es.toList).run P w= .ok r w:=by rw[F.find k _ es.toList w (HP Y),H]
  cases r with
  |none=>
   obtain⟨g1,g2⟩:=A
   refine zD ho (fun q hq=> ?_) (h (es.push {key:=ek k,val:=v,born:=ck}) (ck+1) _ (G _) ⟨_,nS l k yv,rfl,yY s g k yv,CR g k yv,?_,?_,?_⟩)
   .simp[execOp,hq,cL hx,cL hy,cL hu,Instr.mapUpdate,run_underlying V,E,hc,f,K]
   .rw[g2,fJ]
    exact Y.snoc rfl S hv
   .intro e d
    rw[fJ,gI] at d
    rcases d with d|d
    .have:=D e d;omega
    simp at d;subst d;simp
   rw[fJ,List.map_append,List.nodup_append]
   refine⟨R,by simp,?_⟩
   intro a ha b B e
   simp at B;subst B e
   obtain⟨U,M,a2⟩:=fE.1 ha
   have:=D U M
   omega
  |some qv=>
   obtain⟨q,v0⟩:=qv
   obtain⟨x0,a2,g1,g2,g3,g4,g5,⟨U,g6,g7⟩,g8⟩:=A
   have d:es[q]? =some U:=by simpa using g6
   have M:(Instr.keyThatStays (ek k) (ek k)).run P w= .ok (ek k) w:=F.stay k w
   refine zD ho (fun p hp=> ?_) (h (es.modify q fun e=>{e with key:=ek k,val:=v}) ck _ (G _) ⟨_,nS l k yv,rfl,yY s g k yv,CR g k yv,?_,?_,?_⟩)
   .simp[execOp,hp,cL hx,cL hy,cL hu,Instr.mapUpdate,run_underlying V,E,hc,f,d,g7,M,K]
   .rw[gZ]
    have:=g8 yv cs (fun e=>{e with key:=ek k,val:=v}) S (fun e=>⟨rfl,hv⟩)
    simpa using this
   .intro e d
    rw[gZ] at d
    obtain⟨j,hj,rfl⟩:=List.mem_iff_getElem.1 d
    rw[hJ]
    have hj':j<es.toList.length:=by simpa using hj
    have:=D es.toList[j] (jT hj')
    split
    .exact this
    exact this
   rw[gZ]
   have:(es.toList.modify q fun e=>{e with key:=ek k,val:=v}).map (·.born)=es.toList.map (·.born):=by
    apply List.ext_getElem
    .simp
    intro j V h2
    simp only[dF,hJ]
    split<;>rfl
   rw[this];exact R
theorem lC[KOrd κ]{t kt et:TypeId}{z v:Value}{x y u:Operand}{q:Option Nat}{es:Array MapEntry}{ck:Nat}{o o':Option (List (κ×ν))}{k:κ}{yv:ν}{cs:List Value}(ho:dK ops L i=some (none,.insert t x y u))
  (hx:bV L x=some (.map q)) (hy:bV L y=some (ek k)) (hu:bV L u=some v) (hI:DN P t=some (kt,et,z)) (F:KeyOK P kt ek) (st:St m (aD q es ck::own) w) (H:MapQ ek c agg m q es ck o)
  (S:c.rep m yv cs) (hv:v=qF agg cs) (Z:eA o k yv=some o')
  (h:∀es' ck' w',St m (aD q es' ck'::own) w'->MapQ ek c agg m q es' ck' o'->N L w'):eL P n ops Q i N L w:=by
 obtain⟨V,h2⟩:=QW hI
 cases q with
 |none=>simp only[MapQ] at H;subst H;simp[eA] at Z
 |some b=>
  obtain⟨l0,l,rfl,s,g,Y,D,R⟩:=H
  simp only[eA,kK,jG] at Z
  subst Z
  have B:w.heap[b]? =some (.map es ck):=st.head.1
  have a1:=sE B
  have E:(getObj b).run P w= .ok (.map es ck) w:=by simp[getObj,Sem.run,B]
  have K:∀o',(setObj b o').run P w= .ok () {w with heap:=w.heap.setIfInBounds b o'}:=fun o'=>ZE B ae
  have G:∀o',St m (.blk b o'::own) {w with heap:=w.heap.setIfInBounds b o'}:=fun o'=>
   St.set (o:= .map es ck) st ⟨⟨rfl,rfl⟩,rfl,mP⟩ (by simp[a1]) (fun k _ F=>by simp[Array.getElem?_setIfInBounds,Ne.symm F])
  have hc:=F.chk false k w
  obtain⟨r,H,A⟩:=NB (c:=c) (agg:=agg) k es.toList l 0 Y
  have f:(Instr.findKey kt (ek k) es.toList).run P w= .ok r w:=by rw[F.find k _ es.toList w (HP Y),H]
  cases r with
  |none=>
   obtain⟨g1,g2⟩:=A
   refine zD ho (fun q hq=> ?_) (h (es.push {key:=ek k,val:=v,born:=ck}) (ck+1) _ (G _) ⟨_,nS l k yv,rfl,yY s g k yv,CR g k yv,?_,?_,?_⟩)
   .simp[execOp,hq,cL hx,cL hy,cL hu,Instr.mapUpdate,run_underlying V,E,hc,f,K]
   .rw[g2,fJ]
    exact Y.snoc rfl S hv
   .intro e d
    rw[fJ,gI] at d
    rcases d with d|d
    .have:=D e d;omega
    simp at d;subst d;simp
   rw[fJ,List.map_append,List.nodup_append]
   refine⟨R,by simp,?_⟩
   intro a ha b B e
   simp at B;subst B e
   obtain⟨U,M,a2⟩:=fE.1 ha
   have:=D U M
   omega
  |some qv=>
   obtain⟨q,v0⟩:=qv
   obtain⟨x0,a2,g1,g2,g3,g4,g5,⟨U,g6,g7⟩,g8⟩:=A
   have d:es[q]? =some U:=by simpa using g6
   have M:(Instr.keyThatStays (ek k) (ek k)).run P w= .ok (ek k) w:=F.stay k w
   refine zD ho (fun p hp=> ?_) (h (es.modify q fun e=>{e with key:=ek k,val:=v}) ck _ (G _) ⟨_,nS l k yv,rfl,yY s g k yv,CR g k yv,?_,?_,?_⟩)
   .simp[execOp,hp,cL hx,cL hy,cL hu,Instr.mapUpdate,run_underlying V,E,hc,f,d,g7,M,K]
   .rw[gZ]
    have:=g8 yv cs (fun e=>{e with key:=ek k,val:=v}) S (fun e=>⟨rfl,hv⟩)
    simpa using this
   .intro e d
    rw[gZ] at d
    obtain⟨j,hj,rfl⟩:=List.mem_iff_getElem.1 d
    rw[hJ]
    have hj':j<es.toList.length:=by simpa using hj
    have:=D es.toList[j] (jT hj')
    split
    .exact this
    exact this
   rw[gZ]
   have:(es.toList.modify q fun e=>{e with key:=ek k,val:=v}).map (·.born)=es.toList.map (·.born):=by
    apply List.ext_getElem
    .simp
    intro j V h2
    simp only[dF,hJ]
    split<;>rfl
   rw[this];exact R
end
end Go.Dc
namespace Go.Dc
section
variable {P:Program} {n:Fr} {ops:Array Oper} {Q:Exit->Act->World->Prop} {i d:Nat} {L:bK} {w:World} {m:Mem} {own:List Piece} {N:bK->World->Prop}
variable {α:Type} {f:α->Value}
def zT(by_:Nat)(z:α)(k:Int):Option (List α):=if 0<=k/\k*by_<=140737488355328/\k<=maxLen then some (List.replicate k.toNat z) else none
def oC(f:α->Value)(l:List α)(T:List Value):Array Value:=(l.map f++T).toArray
theorem qLc{t e by_:Nat}{x y:Operand}{z:α}{k:Int}{kd B:IntKind}{l:List α}(f:α->Value)(E:dK ops L i=some (some d,.makeSlice t x y))(D:Nat.blt d n=true)(M:bV L x=some (.int kd k))(R:bV L y=some (.int B k))
  (hi:vY P t=some (e,1,by_,1)) (r:(P.info? e).bind (·.zero)=some (f z)) (F:(f z).oneCell'=true) (st:St m own w) (g:zT by_ z k=some l)
  (h:∀b w',List.length l=Int.toNat k->St m (.blk b (.cells (oC f l []) e (0,0))::own) w'->N ((d,.slice (some ⟨b,0,none⟩) (Int.toNat k) (Int.toNat k))::L) w'):eL P n ops Q i N L w:=by
 obtain⟨H,inf,zv,a,p,A,v,U⟩:=QH hi
 rw[a] at r
 simp only[j0,p,jG] at r
 subst r
 unfold zT at g
 split at g
 .rename_i hk
  obtain⟨Y,Z,k3⟩:=hk
  simp only[jG] at g;subst g
  have S:(maxLen:Int)=9223372036854775807:=rfl
  have K:IntKind.i64.wrap k=k:=by simp[IntKind.wrap,IntKind.signed,IntKind.bits];omega
  have k2':¬(281474976710656<(by_:Int)*k):=by rw[Int.mul_comm];omega
  have c:(f z).cells= #[f z]:=by cases hv:f z<;>simp_all [Value.cells,Value.oneCell']
  have u:oC f (List.replicate k.toNat z) []=((List.replicate k.toNat z).map f).toArray:=by simp[oC]
  refine mS (w':=w.alloc (.cells ((List.replicate k.toNat z).map f).toArray e)) E D (fun q G=> ?_) (h w.heap.size _ ae (by rw[u];exact st.alloc ⟨⟨rfl,rfl⟩,rfl,mP⟩ rfl))
  simp only[execOp,G,cL M,cL R,Instr.makeSlice,Sem.run_bind,run_underlying H,Result.andThen_ok,asInt,asIntOf,typeInfo,run_program,a,Sem.run_pure,K,v]
  have s:¬(k<0):=by omega
  have o:(decide (k<0)||decide ((by_:Int)*k>2^48)||decide (k<0)||decide (k>k))=false:=by simp[s];omega
  simp only[o,j9,jC,run_askRoom,Result.andThen_ok,sizeOf,typeInfo,Sem.run_bind,run_program,a,Sem.run_pure,A,Nat.mul_one]
  by_cases h0:k.toNat=0
  .simp[h0,newRow]
   congr 2
   first|rfl|simp
  simp[h0,zeroValue,typeInfo,a,p,c,newRow,Nat.mod_one]
  congr 2
  apply Array.ext
  .simp
  intro j s V;simp
 cases g
theorem XT{t e:TypeId}{x y:Operand}{b nn cc:Nat}{l:List α}{k:IntKind}{ix:Int}{z:α}(p:dK ops L i=some (some d,.indexAddr t x y))(o:Nat.blt d n=true)
  (s:bV L x=some (.slice (some ⟨b,0,none⟩) nn cc)) (u:bV L y=some (.int k ix)) (hi:qU P t=some (e,1)) (A:List.length l=nn) (a:bS l ix=some z)
  (h:N ((d,.pointer (some ⟨b,ix.toNat,none⟩))::L) w):eL P n ops Q i N L w:=by
 obtain⟨c,inf,f,g⟩:=xH hi
 unfold bS at a
 split at a
 .rename_i h0
  have v:ix.toNat<l.length:=(List.getElem?_eq_some_iff.1 a).1
  refine mS p o (fun q r=> ?_) h
  have hlt':ix<(nn:Int):=by omega
  simp[execOp,r,Instr.indexAt,cL s,cL u,asIntOf,run_underlying c,h0,hlt',sizeOf,typeInfo,f,g,xJ]
 cases a
theorem XQ{t e:TypeId}{x y:Operand}{b:Nat}{l:List α}{T:List Value}{ix:Int}{z u:α}(A:dK ops L i=some (none,.store t x y))
  (D:bV L x=some (.pointer (some ⟨b,ix.toNat,none⟩))) (E:bV L y=some (f u)) (st:St m (.blk b (.cells (oC f l T) e (0,0))::own) w) (g:bS l ix=some z) (p:(f u).oneCell'=true) (d:(P.info? t).map (·.size)=some 1)
  (h:∀w',St m (.blk b (.cells (oC f (l.set ix.toNat u) T) e (0,0))::own) w'->N L w'):eL P n ops Q i N L w:=by
 unfold bS at g
 split at g
 .have s:ix.toNat<l.length:=(List.getElem?_eq_some_iff.1 g).1
  have c:(f u).cells= #[f u]:=by cases hv:f u<;>simp_all [Value.cells,Value.oneCell']
  have r:=st.head.1
  have a:=run_storeCells_at P b ix.toNat e [f u] 0 (oC f l T) w r (by simp[oC];omega) (by simp[p])
  simp only[gU] at a
  have o:((oC f l T).toList.take ix.toNat++[f u]++(oC f l T).toList.drop (ix.toNat+[f u].length)).toArray=oC f (l.set ix.toNat u) T:=by
   apply congrArg List.toArray
   simp only[oC,hH]
   rw[List.map_set,List.set_eq_take_append_cons_drop,if_pos (by simpa using s)]
   rw[kO ai,gC ai]
   simp
  rw[o] at a
  cases hi:P.info? t with
  |none=>simp[hi] at d
  |some inf=>
   simp only[hi,kK,jG] at d
   refine zD A (fun q B=> ?_) (h (w.setRow b (oC f (l.set ix.toNat u) T)) (st.set ⟨⟨rfl,rfl⟩,rfl,mP⟩ (setRow_heap w b (oC f l T) _ e _ r) (fun k _ v=>setRow_other w b k _ v)))
   simp[execOp,B,Instr.storeAt,cL D,cL E,Instr.sureAddr,storeVar,sizeOf,typeInfo,hi,c,d,a]
 cases g
theorem St.freeze{c:Codec α}{b e nn cc:Nat}{l:List α}{T:List Value}(st:St m (.blk b (.cells (oC f l T) e (0,0))::own) w)(F:List.length l=nn)(D:nn<=cc)(a:cc<=maxLen)(y:(oC f l T).size=cc)(g:c.sz=1)(z:∀m x,c.rep m x [f x]):
  ∃m',m.le m'/\St m' (.room (some ⟨b,0,none⟩) (List.length l) cc e 1::own) w/\RepS c m' (some ⟨b,0,none⟩) cc l:=by
 have h:(oC f l T).toList.take (l.map f).length=l.map f:=by simp[oC]
 obtain⟨m',q,r,s,t,u,E⟩:=St.know (b:=b) (cs:=l.map f) st.tail (st.head_ne rfl) st.head.1 h (fun o v n=>by rw[st.head.2.1 o] at n;cases n)
 refine⟨m',q,r.cons ⟨rfl,rfl,by omega,a,⟨_,st.head.1,by rw[y,Nat.mul_one]⟩,fun o B=>t o (by simpa using B),by rw[u];exact st.head.2.2⟩ ?_,?_⟩
 .intro k d;simp[Piece.block] at d;subst d;exact st.head_ne rfl
 exact RepS.of_cells (cs:=l.map f) aa a (fun j x p=>by
  have d:=(List.getElem?_eq_some_iff.1 p).1
  have A:=(List.getElem?_eq_some_iff.1 p).2
  rw[g,Nat.mul_one,<-List.map_drop,<-List.map_take,jH d,A]
  exact z m' x) s
theorem qRe{by_:Nat}{z:α}{k:Int}{l:List α}(h:zT by_ z k=some l):k.toNat<=maxLen:=by
 unfold zT at h
 split at h
 .rename_i hk;have:=hk.2.2;have a:(maxLen:Int)=9223372036854775807:=rfl;omega
 cases h
theorem qLg{l:List α}{T:List Value}{nn cc:Nat}(h:List.length l=nn)(a:nn+T.length=cc):(oC f l T).size=cc:=by simp[oC];omega
end
end Go.Dc
namespace Go.Dc
theorem TV{α:Type}{l:List α}{n:Nat}(h:List.length l=n)(i:Nat)(a:α):List.length (List.set l i a)=n:=by rw[List.length_set];exact h
end Go.Dc
end
namespace Go.Dc
section
def lM{α σ β:Type}(f:Option α->σ->Option (σ⊕β)):List α->σ->Option β
 |[],s=>(f none s).bind fun
  | .inl _=>none
  | .inr b=>some b
 |e::l,s=>(f (some e) s).bind fun
  | .inl s'=>lM f l s'
  | .inr b=>some b
def IC{α:Type}(x:α):List α->List (List α)
 |[]=>[[x]]
 |y::l=>(x::y::l)::(IC x l).map (y:: ·)
def wM{α:Type}:List α->List (List α)
 |[]=>[[]]
 |x::l=>(wM l).flatMap (IC x)
theorem MT{α:Type}{x:α}:∀{l k:List α},k∈IC x l↔∃a b,l=a++b/\k=a++x::b
 |[],k=>by
  simp only[IC,gH]
  constructor
  .rintro rfl;exact⟨[],[],rfl,rfl⟩
  rintro⟨a,b,h,rfl⟩
  simp only[List.nil_eq,List.append_eq_nil_iff] at h
  obtain⟨rfl,rfl⟩:=h;rfl
 |y::l,k=>by
  simp only[IC,jI,fE]
  constructor
  .rintro(rfl|⟨k',c,rfl⟩)
   .exact⟨[],y::l,rfl,rfl⟩
   obtain⟨a,b,rfl,rfl⟩:=MT.1 c
   exact⟨y::a,b,rfl,rfl⟩
  rintro⟨a,b,h,rfl⟩
  cases a with
  |nil=>left;simp only[jW] at h;rw[<-h];rfl
  |cons z a=>
   simp only[gD,kL] at h
   obtain⟨rfl,rfl⟩:=h
   right
   exact⟨a++x::b,MT.2 ⟨a,b,rfl,rfl⟩,rfl⟩
theorem RX{α:Type}:∀{l k:List α},k.Perm l->k∈wM l
 |[],k,h=>by rw[List.perm_nil] at h;subst h;simp[wM]
 |x::l,k,h=>by
  have c:x∈k:=h.mem_iff.2 (jL ..)
  obtain⟨a,b,rfl⟩:=List.append_of_mem c
  have h':(a++b).Perm l:=(gA.symm.trans h).cons_inv
  simp only[wM,fO]
  exact⟨a++b,RX h',MT.2 ⟨a,b,rfl,rfl⟩⟩
theorem RK{α:Type}:∀{l k:List α},k∈wM l->k.Perm l
 |[],k,h=>by simp[wM] at h;subst h;exact .refl _
 |x::l,k,h=>by
  simp only[wM,fO] at h
  obtain⟨k',c,d⟩:=h
  obtain⟨a,b,rfl,rfl⟩:=MT.1 d
  exact gA.trans ((RK c).cons x)
class Triv(σ:Type) where
 one:Bool
 eq:one=true->∀a b:σ,a=b
instance trivNo{σ:Type}:Triv σ:=⟨false,fun h=>by cases h⟩
instance trivU:Triv Unit:=⟨true,fun _ _ _=>rfl⟩
def UV{α σ β:Type}[DecidableEq β][Triv σ](f:Option α->σ->Option (σ⊕β))(l:List α)(s:σ)(b:β):Bool:=
 Triv.one σ&&l.all fun x=>match f (some x) s with
  |some (.inl _)=>true
  |some (.inr c)=>decide (c=b)
  |none=>false
theorem RS{α σ β:Type}{f:Option α->σ->Option (σ⊕β)}{s:σ}{b:β}(o:∀a c:σ,a=c):∀k:List α,(∀x∈k,(∃s',f (some x) s=some (.inl s'))\/f (some x) s=some (.inr b))->
  (lM f k s=some b/\∃x∈k,f (some x) s=some (.inr b))\/lM f k s=lM f [] s/\∀x∈k,f (some x) s≠some (.inr b)
 |[],_=> .inr ⟨rfl,by simp⟩
 |x::k,h=>by
  rcases h x (jL ..) with ⟨s',g⟩|g
  .have e:lM f (x::k) s=lM f k s:=by rw[lM,g,o s' s];rfl
   rcases RS o k fun y d=>h y (jO _ d) with ⟨l,y,d,n⟩|⟨l,n⟩
   .exact .inl ⟨e.trans l,y,jO _ d,n⟩
   refine .inr ⟨e.trans l,fun y d=> ?_⟩
   rcases jI.1 d with rfl|d
   .rw[g];simp
   exact n y d
  exact .inl ⟨by rw[lM,g];rfl,x,jL ..,g⟩
theorem qPr{α σ β:Type}[DecidableEq β][Triv σ]{f:Option α->σ->Option (σ⊕β)}{l:List α}{s:σ}{b:β}(n:lM f l s=some b)(d:UV f l s b=true)(k:List α)(g:k.Perm l):lM f k s=some b:=by
 unfold UV at d
 rw[jJ] at d
 have good:∀x∈l,(∃s',f (some x) s=some (.inl s'))\/f (some x) s=some (.inr b):=fun x a=>by
  have:=jN.1 d.2 x a
  split at this
  .rename_i s' h;exact .inl ⟨s',h⟩
  .rename_i c h;rw[h,kV this];exact .inr rfl
  cases this
 have e:=Triv.eq d.1
 rcases RS e k fun x a=>good x (g.mem_iff.1 a) with h|⟨o,p⟩
 .exact h.1
 rcases RS e l good with ⟨_,x,a,r⟩|⟨q,_⟩
 .exact absurd r (p x (g.mem_iff.2 a))
 rw[o,<-q,n]
def wG{α σ β:Type}[DecidableEq β][Triv σ](f:Option α->σ->Option (σ⊕β))(l:List α)(s:σ):Option β:=
 match lM f l s with
 |none=>none
 |some b=>if(UV f l s b||(wM l).all fun k=>decide (lM f k s=some b))then some b else none
theorem qMr{α σ β:Type}[DecidableEq β][Triv σ]{f:Option α->σ->Option (σ⊕β)}{l:List α}{s:σ}{b:β}(h:wG f l s=some b):∀k,k.Perm l->lM f k s=some b:=by
 unfold wG at h
 split at h
 .cases h
 rename_i b' hb
 split at h
 .rename_i a
  simp only[jG] at h;subst h
  intro k c
  rcases fI _ _▸a with d|a
  .exact qPr hb d k c
  have:=jN.1 a k (RX c)
  simpa using this
 cases h
theorem qAz{α σ β:Type}[DecidableEq β][Triv σ]{f:Option α->σ->Option (σ⊕β)}{l:List α}{s:σ}{b:β}(h:∀k,k.Perm l->lM f k s=some b):wG f l s=some b:=by
 unfold wG
 rw[h l (.refl _)]
 simp only
 rw[if_pos]
 rw[fI]
 exact .inr (jN.2 fun k a=>by simpa using h k (RK a))
def LoopE{α σ β:Type}(f:Option α->σ->Option (σ⊕β))(rem:List α)(s:σ)(b:β)(k:Nat):Prop:=(∀l,l.Perm rem->lM f l s=some b)/\rem.length<k
theorem LoopE.start{α σ β:Type}[DecidableEq β][Triv σ]{f:Option α->σ->Option (σ⊕β)}{l:List α}{s:σ}{b:β}(h:wG f l s=some b):LoopE f l s b (l.length+1):=⟨qMr h,Nat.lt_succ_self _⟩
theorem LoopE.zero{α σ β:Type}{f:Option α->σ->Option (σ⊕β)}{rem:List α}{s:σ}{b:β}{p:Prop}(h:LoopE f rem s b 0):p:=absurd h.2 (gG _)
theorem LoopE.nil{α σ β:Type}{f:Option α->σ->Option (σ⊕β)}{rem:List α}{s:σ}{b:β}{k:Nat}(h:LoopE f rem s b (k+1))(e:rem=[]):
  ∃c,f none s=some c/\(∀s',c= .inl s'->LoopE f rem s' b k)/\(∀b',c= .inr b'->b'=b):=by
 subst e
 have:=h.1 [] (.refl _)
 simp only[lM] at this
 obtain⟨c,d,a⟩:=jK.1 this
 refine⟨c,d,?_,?_⟩
 .rintro s' rfl;simp at a
 rintro b' rfl;simpa using a
theorem LoopE.cons{α σ β:Type}{f:Option α->σ->Option (σ⊕β)}{rem rest:List α}{e:α}{s:σ}{b:β}{k:Nat}(h:LoopE f rem s b (k+1))(n:rem.Perm (e::rest)):
  ∃c,f (some e) s=some c/\(∀s',c= .inl s'->LoopE f rest s' b k)/\(∀b',c= .inr b'->b'=b):=by
 have p:rem.length=rest.length+1:=by simpa using n.length_eq
 have key:∀l,l.Perm rest->lM f (e::l) s=some b:=fun l a=>h.1 _ ((a.cons e).trans n.symm)
 have d:=key rest (.refl _)
 simp only[lM] at d
 obtain⟨c,g,o⟩:=jK.1 d
 refine⟨c,g,?_,?_⟩
 .rintro s' rfl
  refine⟨fun l a=> ?_,by have:=h.2;omega⟩
  have:=key l a
  simp only[lM,g,j0] at this
  exact this
 rintro b' rfl;simpa using o
def qH(r:Nat)(q:Option Nat)(ck:Nat)(seen:Array Nat):Piece:= .blk r (.mapIter q ck seen ck)
def zR(es:Array MapEntry)(seen:Array Nat):List MapEntry:=es.toList.filter fun e=> !seen.contains e.born
def ItR{κ ν:Type}(ek:κ->Value)(c:Codec ν)(agg:Bool)(m:Mem)(es:Array MapEntry)(seen:Array Nat)(rem:List (κ×ν)):Prop:=∃l',l'.Perm rem/\MapL ek c agg m (zR es seen) l'
def dQ(es:Array MapEntry)(seen:Array Nat)(k v:Value):Prop:=∃(s0:Array Nat) (e:MapEntry),seen=s0.push e.born/\e∈es.toList/\e.key=k/\e.val=v
theorem ItR.mono{κ ν:Type}{ek:κ->Value}{c:Codec ν}{agg:Bool}{m m':Mem}{es:Array MapEntry}{seen:Array Nat}{rem:List (κ×ν)}(h:ItR ek c agg m es seen rem)(a:m.le m'):ItR ek c agg m' es seen rem:=by
 obtain⟨l',b,d⟩:=h;exact⟨l',b,d.mono a⟩
section
variable {P:Program} {n:Fr} {ops:Array Oper} {Q:Exit->Act->World->Prop} {i d:Nat} {L:bK} {w:World} {m:Mem} {own:List Piece} {N:bK->World->Prop}
variable {κ ν:Type} {ek:κ->Value} {c:Codec ν} {agg:Bool}
theorem SK{t kt et:TypeId}{x:Operand}{b:Nat}{es:Array MapEntry}{ck:Nat}{o:Option (List (κ×ν))}(s:dK ops L i=some (some d,.range t x))(k:Nat.blt d n=true)(z:bV L x=some (.map (some b)))
  (y:P.underlying t=some (.map kt et)) (st:St m (aD (some b) es ck::own) w) (v:MapQ ek c agg m (some b) es ck o)
  (h:∀r w',St m (qH r (some b) ck #[]::aD (some b) es ck::own) w'->ItR ek c agg m es #[] (o.getD [])->N ((d,.pointer (some ⟨r,0,none⟩))::L) w'):eL P n ops Q i N L w:=by
 obtain⟨l,l',rfl,a,A,p,B⟩:=v
 have e:(getObj b).run P w= .ok (.map es ck) w:=by
  have f:w.heap[b]? =some (.map es ck):=st.head.1
  simp[getObj,Sem.run,f]
 have g:=st.alloc (w':=w.alloc (.mapIter (some b) ck #[] ck)) (o:= .mapIter (some b) ck #[] ck) ⟨⟨rfl,rfl⟩,rfl,mP⟩ rfl
 have f:∀o,(newObj o).run P w= .ok w.heap.size (w.alloc o):=fun o=>rfl
 refine mS s k (fun q u=> ?_) (h w.heap.size _ g ⟨l',a,by rw[show zR es #[]=es.toList from List.filter_eq_self.2 (fun _ _=>by simp)];exact p⟩)
 simp[execOp,u,cL z,Instr.range,run_underlying y,e,f]
theorem qDi:∀{es:List MapEntry} {l:List (κ×ν)} {j:Nat} {e:MapEntry},MapL ek c agg m es l->es[j]? =some e->∃k v cs,l[j]? =some (k,v)/\e.key=ek k/\c.rep m v cs/\e.val=qF agg cs/\MapL ek c agg m (es.eraseIdx j) (l.eraseIdx j)
 |h::es,l,0,e,⟨k,v,l',b,d,⟨cs,f,s⟩,g⟩,a=>by
  simp at a;subst a b
  exact⟨k,v,cs,rfl,d,f,s,by simpa using g⟩
 |h::es,l,j+1,e,⟨k,v,l',b,d,f,g⟩,a=>by
  subst b
  obtain⟨t,u,cs,n,o,p,q,r⟩:=qDi g (by simpa using a)
  exact⟨t,u,cs,by simpa using n,o,p,q,by simp only[List.eraseIdx_cons_succ];exact⟨k,v,_,rfl,d,f,r⟩⟩
theorem qKu{es:List MapEntry}(a:(es.map (·.born)).Nodup){seen:Array Nat}{j:Nat}{e:MapEntry}(h:(es.filter fun e=> !seen.contains e.born)[j]? =some e):
  (es.filter fun e'=> !(seen.push e.born).contains e'.born)=(es.filter fun e=> !seen.contains e.born).eraseIdx j:=by
 induction es generalizing j with
 |nil=>simp at h
 |cons x es f=>
  simp only[kJ,gY] at a
  simp only[kU] at h ⊢
  have b:∀y:MapEntry,(seen.push e.born).contains y.born=(seen.contains y.born||(y.born==e.born)):=fun y=>by
   rw[Array.contains_push]
  by_cases hx:seen.contains x.born=true
  .simp only[hx,kI,j9,jC] at h ⊢
   rw[b,hx]
   simp only[Bool.true_or,kI,j9,jC]
   exact f a.2 h
  have hx':seen.contains x.born=false:=by simpa using hx
  simp only[hx',jZ,jE] at h ⊢
  rw[b,hx']
  cases j with
  |zero=>
   simp at h
   subst h
   simp only[dH,fC,kI,j9,jC,List.eraseIdx_cons_zero]
   refine List.filter_congr fun y c=> ?_
   rw[b]
   have:¬y.born=x.born:=fun e=>a.1 (by rw[<-e];exact gN c)
   simp[this]
  |succ j=>
   have h':(es.filter fun e=> !seen.contains e.born)[j]? =some e:=by simpa using h
   have c:e∈es:=(gP.1 (fG h')).1
   have d:¬x.born=e.born:=fun g=>a.1 (by rw[g];exact gN c)
   simp only[dH,kF,d,Bool.not_eq_eq_eq_not,kI,beq_eq_false_iff_ne,ne_eq,not_false_eq_true,jE,List.eraseIdx_cons_succ]
   congr 1
   exact f a.2 h'
theorem qCa(es:Array MapEntry)(seen:Array Nat):(leftOf es seen).toList=zR es seen:=by simp[leftOf,zR]
theorem St.setIt{r:Nat}{q:Option Nat}{ck:Nat}{seen:Array Nat}{b:World}(seen':Array Nat)(st:St m (qH r q ck seen::own) w)(a:b=w\/b=w.drew):St m (qH r q ck seen'::own) (Go.ChangeMaps.setBlock b r (.mapIter q ck seen' ck)):=by
 have c:=sE st.head.1
 refine St.set (o:= .mapIter q ck seen ck) (o':= .mapIter q ck seen' ck) st ?_ ?_ ?_
 .rcases a with rfl|rfl<;>exact⟨⟨rfl,rfl⟩,rfl,mP⟩
 .have:(w.heap.setIfInBounds r (.mapIter q ck seen' ck))[r]? =some (.mapIter q ck seen' ck):=by simp[c]
  rcases a with rfl|rfl<;>exact this
 intro k _ d
 have:(w.heap.setIfInBounds r (.mapIter q ck seen' ck))[k]? =w.heap[k]? :=by simp[Array.getElem?_setIfInBounds,Ne.symm d]
 rcases a with rfl|rfl<;>exact this
theorem TF{x:Operand}{r b ck:Nat}{es:Array MapEntry}{seen:Array Nat}{o:Option (List (κ×ν))}{rem:List (κ×ν)}(V:dK ops L i=some (some d,.next x false))(U:Nat.blt d n=true)(H:bV L x=some (.pointer (some ⟨r,0,none⟩)))
  (st:St m (qH r (some b) ck seen::aD (some b) es ck::own) w) (l:MapQ ek c agg m (some b) es ck o) (Y:ItR ek c agg m es seen rem)
  (R:rem=[]->∀w',St m (qH r (some b) ck seen::aD (some b) es ck::own) w'->N ((d,.tuple #[.bool false])::L) w')
  (S:∀(e:κ×ν) (rest:List (κ×ν)) (seen':Array Nat) (cs:List Value) (w':World),rem.Perm (e::rest)->c.rep m e.2 cs->St m (qH r (some b) ck seen'::aD (some b) es ck::own) w'->ItR ek c agg m es seen' rest->dQ es seen' (ek e.1) (qF agg cs)->
   N ((d,.tuple #[.bool true,ek e.1,qF agg cs])::L) w'):eL P n ops Q i N L w:=by
 obtain⟨_,_,_,_,_,_,A,B⟩:=l
 obtain⟨l',f,s⟩:=Y
 have D:w.heap[r]? =some (.mapIter (some b) ck seen ck):=st.head.1
 have F:w.heap[b]? =some (.map es ck):=st.tail.head.1
 refine DC (v:=undef) (w':=w) V U (fun q l=> ?_)
 rcases run_next_at (P:=P) w q.type r b ck ck seen es ck D F A (jP _) with ⟨Z,a⟩|⟨e,p,w1,G,a⟩
 .have g:zR es seen=[]:=by rw[<-qCa];exact jX (by simpa using Z)
  rw[g] at s
  have hl':l'=[]:=s
  subst hl'
  refine⟨_,w,?_,R (List.nil_perm.1 f) w st⟩
  simp[execOp,l,cL H,a]
 rw[qCa] at p
 obtain⟨j,E⟩:=List.mem_iff_getElem?.1 p
 obtain⟨k,v,cs,u,y,K,z,M⟩:=qDi s E
 have a1:=(List.getElem?_eq_some_iff.1 u).1
 have g:l'.Perm ((k,v)::l'.eraseIdx j):=by
  have h:l'[j]=(k,v):=(List.getElem?_eq_some_iff.1 u).2
  have t:l'=l'.take j++(k,v)::l'.drop (j+1):=by rw[<-h,fR,List.take_append_drop]
  rw[List.eraseIdx_eq_take_drop_succ]
  exact(List.Perm.of_eq t).trans gA
 have t:e∈es.toList:=(gP.1 p).1
 have h:zR es (seen.push e.born)=(zR es seen).eraseIdx j:=qKu B E
 refine⟨_,_,?_,S (k,v) (l'.eraseIdx j) (seen.push e.born) cs _ (f.symm.trans g) K (St.setIt _ st G) ⟨_,.refl _,by rw[h];exact M⟩ ⟨seen,e,rfl,t,y,z⟩⟩
 simp[execOp,l,cL H,a,y,z]
theorem SF{x:Operand}{r b ck:Nat}{es:Array MapEntry}{seen:Array Nat}{o:Option (List (κ×ν))}{K V:Value}(v:dK ops L i=some (some d,.entry x))(t:Nat.blt d n=true)(y:bV L x=some (.pointer (some ⟨r,0,none⟩)))
  (st:St m (qH r (some b) ck seen::aD (some b) es ck::own) w) (g:MapQ ek c agg m (some b) es ck o) (u:dQ es seen K V)
  (h:N ((d,.tuple #[K,V])::L) w):eL P n ops Q i N L w:=by
 obtain⟨_,_,_,_,_,_,z,l⟩:=g
 obtain⟨a,e,rfl,f,rfl,rfl⟩:=u
 have p:w.heap[r]? =some (.mapIter (some b) ck (a.push e.born) ck):=st.head.1
 have s:w.heap[b]? =some (.map es ck):=st.tail.head.1
 have k:=run_entry_at (P:=P) w r b ck a es ck e p s f l
 refine mS v t (fun q g=> ?_) h
 simp[execOp,g,cL y,k]
end
end
end Go.Dc
section
namespace Go.Dc
def rD(s:BA)(c:Int):Int:=
 match(List.range s.size).find? fun i=>s[i]! ==c.toNat.toUInt8 with
 |some i=>(i:Int)
 |none=> -1
def zX(s:BA)(c:Int):Int:=s.foldl (fun n x=>if x==c.toNat.toUInt8 then n+1 else n) ((0:Nat):Int)
section
variable {ρ:Option Nat} {P:Program} {n:Fr} {ops:Array Oper} {Q:Exit->Act->World->Prop} {i d:Nat} {L:bK} {w:World} {m:Mem} {own:List Piece} {N:bK->World->Prop}
theorem RR{f:FuncId}{fn:Func}{e:Array Value->Sem Value}{xs:Array Operand}{ts:Array TypeId}(vs:List Value)(v:Value)(s:dK ops L i=some (some d,.call {callee:= .value (.func f),args:=xs,argTypes:=ts}))(p:Nat.blt d n=true)
  (u : xs.map (mQ L) = vs.toArray) (r : P.funcs[f]? = some fn) (b : (fn.name == "runtime.NumGoroutine", fn.body.isNone, (Extern.findNext fn).isNone) = (false, true, true)) (o : Extern.find fn = some e)
  (a:(e vs.toArray).run P w= .ok v w) (h:N ((d,v)::L) w):eL P n ops Q i N L w:=by
 simp only[Prod.mk.injEq] at b
 obtain⟨g,k,l⟩:=b
 have g1' : ¬ fn.name = "runtime.NumGoroutine" := by simpa using g
 have g2':fn.body=none:=by simpa using k
 have g3':Extern.findNext fn=none:=by simpa using l
 refine mS s p (fun q t=> ?_) h
 have c:mQ L (.func f)= .func (.func f) #[] #[]:=rfl
 simp[execOp,t,resolve,c,u,Deferred.ofValue,invoke,callFunc,r,g1',g2',g3',o,a]
theorem qKb{f:FuncId}{fn:Func}{x y:Operand}{ts:Array TypeId}{s:BA}{c:Int}(l:dK ops L i=some (some d,.call {callee:= .value (.func f),args:= #[x,y],argTypes:=ts}))(g:Nat.blt d n=true)
  (o : bV L x = some (.string s)) (p : bV L y = some (.int .u8 c)) (k : P.funcs[f]? = some fn) (a : (fn.name == "runtime.NumGoroutine", fn.body.isNone, (Extern.findNext fn).isNone) = (false, true, true)) (b : Extern.find fn = some Extern.BytealgIndexByte.indexByte)
  (h:N ((d,.int .i64 (rD s c))::L) w):eL P n ops Q i N L w:=by
 refine RR [.string s,.int .u8 c] _ l g (by simp[cL o,cL p]) k a b ?_ h
 have e:Extern.BytealgIndexByte.indexByte #[.string s,.int .u8 c]=(match(List.range s.size).find? fun i=>s[i]! ==c.toNat.toUInt8 with
  |some i=>pure (goInt i)
  |none=>pure (goInt (-1))):=rfl
 show(Extern.BytealgIndexByte.indexByte #[.string s,.int .u8 c]).run P w=_
 rw[e]
 unfold rD
 split<;>rfl
theorem qJx{f:FuncId}{fn:Func}{x y:Operand}{ts:Array TypeId}{s:BA}{c:Int}(l:dK ops L i=some (some d,.call {callee:= .value (.func f),args:= #[x,y],argTypes:=ts}))(g:Nat.blt d n=true)
  (o : bV L x = some (.string s)) (p : bV L y = some (.int .u8 c)) (k : P.funcs[f]? = some fn) (a : (fn.name == "runtime.NumGoroutine", fn.body.isNone, (Extern.findNext fn).isNone) = (false, true, true)) (b : Extern.find fn = some Extern.BytealgCount.count)
  (h:N ((d,.int .i64 (zX s c))::L) w):eL P n ops Q i N L w:=by
 refine RR [.string s,.int .u8 c] _ l g (by simp[cL o,cL p]) k a b ?_ h
 have e:Extern.BytealgCount.count #[.string s,.int .u8 c]=pure (goInt (s.foldl (fun n x=>if x==c.toNat.toUInt8 then n+1 else n) (0:Nat))):=rfl
 show(Extern.BytealgCount.count #[.string s,.int .u8 c]).run P w=_
 rw[e]
 unfold zX goInt
 simp only[Sem.run_pure]
theorem CQ{b:Frame}{a:Act}{k:List Item}{cs:List Frame}{c:Code}:step P (lone (b.atR a (.code (.scope c)::k)) cs w)= .next (lone (b.atR a (.code c:: .inScope c::k)) cs w):=
 step_lone_go (by simp[stepG,stepG.exec,Frame.atR])
theorem qKa{b:Frame}{a:Act}{k:List Item}{cs:List Frame}{c:Code}:step P (lone (b.atR a (.inScope c::k)) cs w)= .next (lone (b.atR a k) cs w):=
 step_lone_go (by simp[stepG,stepG.exec,Frame.atR])
def OE(Q:Exit->Act->World->Prop):Exit->Act->World->Prop
 | .goto _,_,_=>False
 | .normal,a,w=>Q .normal a w
 | .exit id,a,w=>Q (.exit id) a w
 | .ret,a,w=>Q .ret a w
 | .panic c,a,w=>Q (.panic c) a w
 | .outgrown,a,w=>Q .outgrown a w
theorem qJc{F:Fence}{m:Nat}{a:Act}{c:Code}(h:c.wpIn F m P (OE Q) a w):(Code.scope c).wpIn F m P Q a w:=by
 intro b k cs q n p
 have f:(lone (b.atR a (.code (.scope c)::k)) cs w).fenced P F:=fenced_calm n p rfl
 obtain⟨e,a₁,w₁,g,d⟩:=h b (.inScope c::k) cs q n p
 cases e with
 |normal=>exact⟨.normal,a₁,w₁,g,.head f CQ (StepsIn.trans d (.one (fenced_calm n p rfl) qKa))⟩
 |exit id=>
  have r:exitTo id (.inScope c::k)=exitTo id k:=by simp[exitTo]
  exact⟨.exit id,a₁,w₁,g,fun k' o=> .head f CQ (d.1 k' (by rw[r];exact o)),
   fun hr' o=>let ⟨k₁,h1,h2⟩:=d.2 hr' (by rw[r];exact o);⟨k₁,h1,.head f CQ h2⟩⟩
 |goto l=>exact g.elim
 |ret=>exact⟨_,a₁,w₁,g,.of_steps (.one f CQ) d⟩
 |panic ch=>exact⟨_,a₁,w₁,g,.of_steps (.one f CQ) d⟩
 |outgrown=>exact⟨_,a₁,w₁,g,.of_steps (.one f CQ) d⟩
theorem qDs{c:Code}(h:W ρ P n c (OE Q) L w):W ρ P n (.scope c) Q L w:=fun a b=>qJc (h a b)
theorem vU(h:X n Q .ret L w):X n (OE Q) .ret L w:=h
theorem qDc{l:Nat}(h:X n Q .normal L w):W ρ P n (.label l) Q L w:=fun a b=>wpIn_label (h a b)
end
end Go.Dc
namespace Go.Dc
def UN(P:Program)(t:TypeId):Value->Value->Option Bool
 | .int k a,.int k' b=>match P.underlying t with
  |some (.int _)=>bif decide (k=k') then some (a==b) else none
  |_=>none
 | .bool a,.bool b=>match P.underlying t with
  |some .bool=>some (a==b)
  |_=>none
 | .string a,.string b=>match P.underlying t with
  |some .string=>some (a.toList==b.toList)
  |_=>none
 |_,_=>none
def yA(P:Program)(xs ys:Array Value):List Field->Option Bool
 |[]=>some true
 |f::fs=>match xs[f.offset]?,ys[f.offset]? with
  | some a, some b => bif f.name == "_" || !P.plainKey f.type then none else (UN P f.type a b).bind fun r => (yA P xs ys fs).map fun s => r && s
  |_,_=>none
section
variable {P:Program} {n:Fr} {ops:Array Oper} {Q:Exit->Act->World->Prop} {i d:Nat} {L:bK} {w:World} {N:bK->World->Prop}
theorem qMo{t:TypeId}{a b:Value}{r:Bool}(dp:Nat)(h:UN P t a b=some r):(Op.equalIn (dp+1) t a b).run P w= .ok r w:=by
 unfold UN at h
 split at h
 .split at h
  .rename_i hu
   rename_i k a k' b _ q
   by_cases hk:k=k'
   .subst hk
    simp only[decide_true,cond_true,jG] at h
    subst h
    exact run_equalIn_int w dp t k _ a b hu
   simp[hk] at h
  cases h
 .split at h
  .rename_i hu;cases h;exact run_equalIn_bool w dp t _ _ hu
  cases h
 .split at h
  .rename_i hu;cases h;exact run_equalIn_string w dp t _ _ hu
  cases h
 cases h
theorem qCh{xs ys:Array Value}(dp:Nat):∀{fs:List Field} {r:Bool},yA P xs ys fs=some r->(Op.eqFields (dp+1) xs ys fs).run P w= .ok r w
 |[],r,h=>by simp[yA] at h;subst h;simp[Op.eqFields]
 |f::fs,r,h=>by
  simp only[yA] at h
  split at h
  .rename_i a b ha hb
   cases c : (f.name == "_" || !P.plainKey f.type) with
   |true=>simp[c] at h
   |false=>
    simp only[c,cond_false] at h
    simp only[Bool.or_eq_false_iff,Bool.not_eq_false'] at c
    obtain⟨s,d,e⟩:=jK.1 h
    obtain⟨u,g,k⟩:=kA.1 e
    have l : f.name ≠ "_" := by simpa using c.1
    have p1:=run_part_plain (P:=P) (w:=w) c.2 ha
    have p2:=run_part_plain (P:=P) (w:=w) c.2 hb
    have p3:=qMo (w:=w) dp d
    have p4:=qCh dp g
    subst k
    simp only[Op.eqFields,l,ne_eq,not_false_eq_true,jE,Sem.run_bind,p1,p2,p3,Result.andThen_ok]
    cases s<;>simp[p4]
  cases h
theorem QM{t:TypeId}{xs ys:Array Value}{r:Bool}(b:P.underlying t=some (.struct (P.fieldsOf t)))(a:P.stoodInHeld t=false)(h:yA P xs ys (P.fieldsOf t).toList=some r):(Op.equal t (.agg xs) (.agg ys)).run P w= .ok r w:=by
 have e:Op.equal t (.agg xs) (.agg ys)=Op.equalIn (9999+1) t (.agg xs) (.agg ys):=rfl
 rw[e,run_equalIn_struct w 9999 t xs ys b a]
 exact qCh (w:=w) 9998 h
abbrev bA(x:Int×BA×BA):Value:= .agg #[.int .i64 x.1,.string x.2.1,.string x.2.2]
theorem zO{kt:TypeId}(c:P.underlying kt=some (.struct (P.fieldsOf kt)))(u:P.stoodInHeld kt=false)
  (d:∀a b:Int×BA×BA,yA P #[.int .i64 a.1,.string a.2.1,.string a.2.2] #[.int .i64 b.1,.string b.2.1,.string b.2.2] (P.fieldsOf kt).toList=some ((a.1==b.1)&&((a.2.1.toList==b.2.1.toList)&&((a.2.2.toList==b.2.2.toList)&&true))))
  (t:∀(e:Bool) (a:Int×BA×BA),qO P (Instr.checkKey e 10000 kt (bA a))=some ()):KeyOK P kt bA where
 find k ks es w h:=by
  have s:∀a b:Int×BA×BA,(Op.equal kt (bA a) (bA b)).run P w= .ok (decide (a=b)) w:=by
   intro a b
   rw[QM (w:=w) c u (d a b)]
   congr 1
   obtain⟨f,g,l⟩:=a
   obtain⟨n,o,p⟩:=b
   have tl:∀x y:BA,x.toList=y.toList->x=y:=fun x y h=>by
    rw[ByteArray.toList_eq,ByteArray.toList_eq] at h
    exact Go.WideShapes.bytes_inj h
   simp only[Bool.and_true]
   rw[jY]
   simp only[jJ,kF,j6,Prod.mk.injEq]
   exact⟨fun h=>⟨h.1,tl _ _ h.2.1,tl _ _ h.2.2⟩,fun h=>⟨h.1,by rw[h.2.1],by rw[h.2.2]⟩⟩
  have ask:∀(ks:List (Int×BA×BA)) (es:List MapEntry) (j:Nat),es.map (·.key)=ks.map bA->(Instr.findAsking kt (bA k) es j).run P w= .ok (uT k ks es j) w:=by
   intro ks
   induction ks with
   |nil=>intro es j h;cases es with
    |nil=>simp[Instr.findAsking,uT]
    |cons e es=>simp at h
   |cons k' ks q=>intro es j h;cases es with
    |nil=>simp at h
    |cons e es=>
     simp only[kJ,kL] at h
     simp only[Instr.findAsking,h.1,Sem.run_bind,s,Result.andThen_ok,uT]
     by_cases hk:k=k'
     .simp[hk]
     simp[hk,q es (j+1) h.2]
  cases es with
  |nil=>cases ks with
   |nil=>simp[Instr.findKey,run_underlying c,Instr.findNow,uT]
   |cons k' ks=>simp at h
  |cons e es=>
   have q:=h
   cases ks with
   |nil=>simp at h
   |cons k' ks=>
    simp only[kJ,kL] at h
    have r:Instr.findNow (.struct (P.fieldsOf kt)) (bA k) (e::es) 0=none:=by simp[Instr.findNow,h.1,Instr.sameNow]
    simp only[Instr.findKey,Sem.run_bind,run_underlying c,Result.andThen_ok,r]
    exact ask _ _ 0 q
 chk e a w:=xL (t e a) w
 stay a w:=by simp[Instr.keyThatStays,Instr.sameBits,RH]
 inj a b h:=by
  obtain⟨f,g,l⟩:=a
  obtain⟨n,o,p⟩:=b
  simp at h
  obtain⟨q,r,s⟩:=h
  subst q r s
  rfl
theorem qAg{t t2:TypeId}{x y:Operand}{xs ys:Array Value}(r:Bool)(e:dK ops L i=some (some d,.binOp .eql t x y t2))(c:Nat.blt d n=true)(k:bV L x=some (.agg xs))(l:bV L y=some (.agg ys))
  (g:P.underlying t=some (.struct (P.fieldsOf t))) (a:(P.stoodInHeld t,P.eqGuardType P.depth t)=(false,false)) (b:yA P xs ys (P.fieldsOf t).toList=some r) (h:N ((d,.bool r)::L) w):eL P n ops Q i N L w:=by
 simp only[Prod.mk.injEq] at a
 refine mS e c (fun q f=> ?_) h
 simp[execOp,f,cL k,cL l,eqGuard,a.2,binOp,QM g a.1 b]
theorem ZV{t t2:TypeId}{x y:Operand}{xs ys:Array Value}(r:Bool)(e:dK ops L i=some (some d,.binOp .neq t x y t2))(c:Nat.blt d n=true)(k:bV L x=some (.agg xs))(l:bV L y=some (.agg ys))
  (g:P.underlying t=some (.struct (P.fieldsOf t))) (a:(P.stoodInHeld t,P.eqGuardType P.depth t)=(false,false)) (b:yA P xs ys (P.fieldsOf t).toList=some r) (h:N ((d,.bool (!r))::L) w):eL P n ops Q i N L w:=by
 simp only[Prod.mk.injEq] at a
 refine mS e c (fun q f=> ?_) h
 simp[execOp,f,cL k,cL l,eqGuard,a.2,binOp,QM g a.1 b]
theorem qKh{m:Mem}{own:List Piece}{t e e' sz b k n' cap cap':Nat}{x:Operand}(S:dK ops L i=some (some d,.convert t t x))(K:Nat.blt d n=true)(Y:bV L x=some (.slice (some ⟨b,0,none⟩) k cap))
  (G:ID P t=some e) (st:St m (.room (some ⟨b,0,none⟩) n' cap' e' sz::own) w) (h:∀w',St m own w'->N ((d,.slice (some ⟨b,0,none⟩) k cap)::L) w'):eL P n ops Q i N L w:=by
 obtain⟨E,F⟩:=QN G
 obtain⟨_,_,_,_,⟨cur,a,_⟩,_⟩:=st.head
 have Z:=sE a
 have z:=st.head_ne (b:=b) rfl
 have l:=st.tail
 obtain⟨w',hw'⟩:∃w',w'=w.freeze ⟨b,cur.size,none⟩ 1:=⟨_,rfl⟩
 have B:w.shape? b=some (e',cur.size):=by unfold World.shape?;rw[a]
 have H:w'.heap[b]? =some (.cells cur e' (cur.size,cur.size+1)):=by
  rw[hw'];unfold World.freeze
  simp[Array.getElem?_modify,a]
 have ho':∀j,j≠b->w'.heap[j]? =w.heap[j]? :=fun j M=>by
  rw[hw'];unfold World.freeze
  simp[Array.getElem?_modify,Ne.symm M]
 have U:Step w w':=by rw[hw'];unfold World.freeze;exact⟨⟨rfl,rfl⟩,rfl,mP⟩
 have r:(convert t t (.slice (some ⟨b,0,none⟩) k cap)).run P w= .ok (.slice (some ⟨b,0,none⟩) k cap) w':=by
  simp[convert,run_underlying E,run_underlying F,markStringish,B,hw']
 have st':St m own w':=by
  refine⟨⟨fun b' o v V=> ?_,fun b' y s=> ?_,l.1.2.2.trans U⟩,fun p A=>Piece.holds_keep (l.2.1 p A) fun k R=>ho' k (fun e=>z (HQ.2 ⟨p,A,e▸R⟩)),l.2.2⟩
  .obtain⟨c,D,f,g,u⟩:=l.1.1 b' o v V
   by_cases hbb:b'=b
   .subst hbb
    rw[a] at g
    simp only[jG,Obj.cells.injEq] at g
    obtain⟨rfl,_,_⟩:=g
    exact⟨_,_,_,H,u⟩
   exact⟨c,D,f,by rw[ho' b' hbb];exact g,u⟩
  have g:=l.1.2.1 b' y s
  by_cases hbb:b'=b
  .subst hbb
   have:=st.head.2.2.2.2.2.2
   rw[this] at s;cases s
  rw[ho' b' hbb];exact g
 refine mS S K (fun q g=> ?_) (h w' st')
 simp[execOp,g,cL Y,r]
end
end Go.Dc
end
namespace Go.Dc
section
open Go.ChangeShapes Go.WideShapes Go.ChangeAt Go.RowKit
class TabW(w:World):Prop where
 ht:∀p∈qFv,∃t f,w.heap[p.1]? =some (.cells p.2 t f)
instance tabW0(w:World):TabW w:=⟨fun p a=>by cases a⟩
def tX(w:World)[TabW w]:Mem:={cell:=fun b o=>w.cell? ⟨b,o,none⟩,obj:=fun b=>w.heap[b]?,wd:=w,ht:=TabW.ht}
theorem qDf(w:World)[TabW w]:St (tX w) [] w:=by
 refine⟨⟨fun b o v h=> ?_,fun _ _ h=>h,Step.refl w⟩,⟨fun p a=>absurd a (gS),List.nodup_nil⟩⟩
 simp only[tX,World.cell?] at h
 split at h
 .rename_i c e f hb
  exact⟨_,_,_,hb,by simpa using h⟩
 cases h
theorem qMq{w w':World}[TabW w]{m':Mem}{own:List Piece}(a:Mem.le (tX w) m')(st:St m' own w'):
  w'.os=w.os/\w'.output=w.output/\∀(b:Nat) (x:Obj),w.heap[b]? =some x->w'.heap[b]? =some x:=by
 have c:=st.1.2.2
 have e:m'.wd=w:=a.2.2.symm
 rw[e] at c
 exact⟨c.1.1,c.1.2,fun b x d=>st.1.2.1 b x (a.2.1 b x d)⟩
theorem qSt{w w':World}(a:w'.os=w.os)(c:w'.output=w.output)(d:∀(b:Nat) (x:Obj),w.heap[b]? =some x->w'.heap[b]? =some x)(may:MemPlace->Prop):w.keptBut w' may:=by
 refine⟨a,c,fun i hi=> ?_⟩
 obtain⟨x,hx⟩:∃x,w.heap[i]? =some x:=⟨w.heap[i],by simp[hi]⟩
 rw[d i x hx,hx]
 cases x<;>simp
theorem qRp{w w':World}(c:∀(b:Nat) (x:Obj),w.heap[b]? =some x->w'.heap[b]? =some x){p:MemPlace}(d:p.block<w.heap.size):w.sameAt w' p:=by
 obtain⟨x,a⟩:∃x,w.heap[p.block]? =some x:=⟨w.heap[p.block],by simp[d]⟩
 cases p with
 |cell b off=>simp only[World.sameAt,World.cell?,MemPlace.block] at a ⊢;rw[c b x a,a]
 |map b=>simp only[World.sameAt,MemPlace.block] at a ⊢;rw[c b x a,a]
section
variable {H:Type} {enc:TypeId×Value->H} {P:Program}
theorem XK{w w':World}{sp:Nat->Bool}{T:TypeId->Prop}(K:Kids P T)(l:∀{t e:TypeId},T t->P.underlying t=some (.slice e)->0<P.cellsOf e)
  (c:∀(b:Nat) (x:Obj),w.heap[b]? =some x->w'.heap[b]? =some x):∀{ts:List TypeId} {vs:List Value} {ds:List (DataW H)} {ps:List MemPlace},(∀t∈ts,T t)->
  DataW.TrodAll enc P w 0 (fun _=>true) true ts vs ds ps->(∀p∈ps,p.block<w.heap.size)->(∀p∈ps,sp p.block=true)->DataW.TrodAll enc P w' 0 sp true ts vs ds ps
 |[],[],[],_,_,h,_,_=>h
 |t::ts,v::vs,d::ds,ps,k,h,f,g=>by
  obtain⟨p,q,⟨fuel,n⟩,o,rfl⟩:=h
  exact⟨p,q,⟨fuel,DataW.trod_stays K l (fun e=>by cases e) (k t (jL ..)) n (fun x a=>qRp c (f x (gB _ a))) (fun x a=>g x (gB _ a))⟩,
   XK K l c (fun u r=>k u (jO _ r)) o (fun x a=>f x (List.mem_append_right _ a)) (fun x a=>g x (List.mem_append_right _ a)),rfl⟩
 |[],_::_,_,_,_,h,_,_=>by simp[DataW.TrodAll] at h
 |[],[],_::_,_,_,h,_,_=>by simp[DataW.TrodAll] at h
 |_::_,[],_,_,_,h,_,_=>by simp[DataW.TrodAll] at h
 |_::_,_::_,[],_,_,h,_,_=>by simp[DataW.TrodAll] at h
theorem qQd{f:Func}{s:ChangeSpec}{apart fresh a:Bool}{W W':World}{args:Array Value}{ds gs:List (DataW H)}{before:List MemPlace}{tb:TypeId}{T:TypeId->Prop}[TabW W](K:Kids P T)
  (E:∀{t e:TypeId},T t->P.underlying t=some (.slice e)->0<P.cellsOf e) (u:∀t∈f.params.toList,T t)
  (D:f.resultTypes= #[tb]) (o:P.underlying tb=some .bool) (v:s.vars=[]) (b:s.fn H (ds++gs)={results:=[.lit (.bool true)],args:=ds})
  (l:DataW.Whole enc P f.params.toList s.vars apart W args.toList ds gs before) {m':Mem} {own:List Piece} (n:Mem.le (tX W) m') (st:St m' own W'):
  s.post enc P f apart fresh a false W args (.bool true) W':=by
 obtain⟨y,z,k⟩:=qMq n st
 have hW':=l
 obtain⟨p,q,A,h,rfl,F,G⟩:=l
 have d:∀x∈p++q,x.block<W.heap.size:=fun x c=>hW'.lt x c
 rw[v] at h
 have B:q=[]:=by
  cases gs with
  |nil=>exact h
  |cons g r=>simp[DataW.TrodVars] at h
 subst B
 refine⟨ds,gs,_,[],p,[],hW',?_,?_,?_,qSt y z k _,fun e=>by cases e⟩
 .rw[b,D]
  exact⟨[],[],⟨1,by simp[DataW.trod,Value.cells,o]⟩,rfl,rfl⟩
 .rw[b]
  exact XK K E k u A (fun x c=>d x (gB _ c)) (fun x c=>by simpa using d x (gB _ c))
 rw[b,v];rfl
def OK{α:Type}(P:Program)(W:World)[TabW W](t:TypeId)(c:Codec α)(good:α->Prop):Prop:=
 P.cellsOf t=c.sz/\∀(H:Type) (enc:TypeId×Value->H) (n:Nat) (cs:List Value) (x:DataW H×List MemPlace),DataW.trod enc P W 0 (fun _=>true) true n t cs=some x->
  (x.1.weights P t).all (· <=reachBytes)=true->∃a,c.rep (tX W) a cs/\good a
variable {W:World} [TabW W]
theorem qNl{t:TypeId}{k:IntKind}(b:P.underlying t=some (.int k))(a:P.cellsOf t=1):OK P W t (aR k) (fun x=>(Lit.int k x).wf=true):=by
 refine⟨a,fun H enc n cs x h _=> ?_⟩
 obtain⟨i,rfl,_,c⟩:=DataW.trod_int b h
 exact⟨i,rfl,c⟩
theorem WV{H:Type}{e:TypeId}:∀{ds:List (DataW H)},(DataW.weightsAll P e ds).all (· <=reachBytes)=true->∀d∈ds,(d.weights P e).all (· <=reachBytes)=true
 |[],_,_,b=>by cases b
 |d::r,h,x,a=>by
  simp only[DataW.weightsAll,List.all_append,jJ] at h
  rcases jI.1 a with rfl|a
  .exact h.1
  exact WV h.2 x a
theorem qRk{a:Addr}{cs:List Value}{k n:Nat}(h:W.cells? 0 (a.add k) n=some cs)(c:a.spot=none):MRow (tX W) a.block (a.off+k) cs:=by
 obtain⟨_,f,d⟩:=World.cells?_some h
 intro j v b
 have e:j<n:=by rw[<-f];exact(List.getElem?_eq_some_iff.1 b).1
 have:=d j e
 rw[b,Go.Addr.add_add,CW c] at this
 simpa[tX,fK] using this
theorem qCx{α:Type}{Q:Nat->α->List Value->Prop}:∀{n:Nat},(∀i,i<n->∃y cs,Q i y cs)->∃l:List α,l.length=n/\∀i x,l[i]? =some x->∃cs,Q i x cs
 |0,_=>⟨[],rfl,fun i x h=>by simp at h⟩
 |n+1,h=>by
  obtain⟨l,b,c⟩:=qCx (n:=n) (fun i hi=>h i aa)
  obtain⟨y,cs,d⟩:=h n aa
  refine⟨l++[y],by simp[b],fun i x a=> ?_⟩
  rw[List.getElem?_append] at a
  split at a
  .exact c i x a
  rename_i hi
  have:i=n:=by
   have:=(List.getElem?_eq_some_iff.1 a).1
   simp at this;omega
  subst this
  simp[b] at a
  subst a
  exact⟨cs,d⟩
theorem qKy{α:Type}{c:Codec α}{good:α->Prop}{t e:TypeId}{by_:Nat}(D:P.underlying t=some (.slice e))(K:P.cellsOf t=1)(G:P.bytesOf e=by_)(p:OK P W e c good):
  OK P W t (yF c) (fun l=>l.length*by_<=reachBytes/\∀x∈l,good x):=by
 refine⟨K,fun H enc n cs x h E=> ?_⟩
 rcases DataW.trod_slice D h with ⟨rfl,rfl⟩|⟨a,len,cap,elems,rest,n',rfl,rfl,rfl,_,M,R,s,v,_,_⟩
 .exact⟨[],⟨none,0,rfl,RepS.nil _ _⟩,by simp,by simp⟩
 simp only[DataW.weights,D,List.all_cons,List.all_append,jJ,j6] at E
 obtain⟨k,F,_⟩:=E
 have key:∀i,i<len->∃y cs',W.cells? 0 (a.add (i*P.cellsOf e)) (P.cellsOf e)=some cs'/\c.rep (tX W) y cs'/\good y:=by
  intro i hi
  have b:=v i hi
  obtain⟨el,hel'⟩:∃el,elems[i]? =some el:=⟨elems[i]' aa,by simp⟩
  rw[hel'] at b
  obtain⟨cs',f,r⟩:=jK.1 b
  obtain⟨y,g,d⟩:=p.2 H enc n' cs' el r (WV F el.1 (gN (fG hel')))
  exact⟨y,cs',f,g,d⟩
 obtain⟨l,z,g⟩:=qCx key
 subst z
 refine⟨l,⟨some a,cap,rfl,M,R,?_,fun i x q=> ?_⟩,⟨?_,fun x q=> ?_⟩⟩
 .cases l with
  |nil=>exact .inr rfl
  |cons y l=>
   obtain⟨cs',f,_⟩:=g 0 y rfl
   obtain⟨_,A,b⟩:=World.cells?_some f
   have u:=p.1▸c.pos
   have d:=b 0 u
   have o:0<cs'.length:=by omega
   rw[List.getElem?_eq_getElem o] at d
   simp only[Nat.zero_mul,Addr.add,jE] at d
   exact .inl (World.cell?_spot d)
 .obtain⟨cs',f,r,_⟩:=g i x q
  have B:a.spot=none:=by
   cases l with
   |nil=>simp at q
   |cons y l=>
    obtain⟨cs',f,_⟩:=g 0 y rfl
    obtain⟨_,A,b⟩:=World.cells?_some f
    have u:=p.1▸c.pos
    have d:=b 0 u
    have o:0<cs'.length:=by omega
    rw[List.getElem?_eq_getElem o] at d
    simp only[Nat.zero_mul,Addr.add,jE] at d
    exact World.cell?_spot d
  exact⟨cs',r,p.1▸qRk f B⟩
 .rw[G] at k
  simp only[gJ] at k
  rw[s] at k
  exact kX (kN _ (Nat.le_add_right _ _)) k
 obtain⟨i,hi⟩:=List.mem_iff_getElem?.1 q
 obtain⟨cs',_,_,b⟩:=g i x hi
 exact b
variable {base:Nat} {t:TypeId} {v:Value} {d:DataW H} {ps:List MemPlace}
theorem qNw{α:Type}{c:Codec α}{good:List α->Prop}{e:TypeId}(p:P.underlying t=some (.slice e))(k:OK P W t (yF c) good)(b:Value.okWide P W .any base t v)(h:DataW.Trod enc P W 0 (fun _=>true) true t v d ps)
  (q:(d.weights P t).all (· <=reachBytes)=true):∃(l:List α) (a:Option Addr) (cap:Nat),v= .slice a l.length cap/\RepS c (tX W) a cap l/\good l:=by
 obtain⟨a,len,cap,rfl⟩:=okWide_slice p b
 obtain⟨n,h⟩:=h
 obtain⟨l,⟨a',cap',f,o⟩,g⟩:=k.2 H enc n _ _ h q
 simp only[Value.cells,kL,Value.slice.injEq,and_true] at f
 obtain⟨rfl,rfl,rfl⟩:=f
 exact⟨l,_,_,rfl,o,g⟩
end
def qDa(P:Program):Bool:=(List.range P.types.size).all fun t=>match P.underlying t with
 |some (.slice e)=>Nat.blt 0 (P.cellsOf e)
 |_=>true
theorem qOh{P:Program}(h:qDa P=true){t e:TypeId}(b:t<P.types.size)(a:P.underlying t=some (.slice e)):0<P.cellsOf e:=by
 have:=jN.1 h t (gV.2 b)
 rw[a] at this
 simp only at this
 exact kS this
end
section
theorem bZ{x:Int}(a: -9223372036854775808<=x)(b:x<=9223372036854775807):IntKind.wrap .i64 x=x:=by simp[IntKind.wrap,IntKind.signed,IntKind.bits];omega
theorem wu8{x:Int}(a:0<=x)(b:x<=255):IntKind.wrap .u8 x=x:=by simp[IntKind.wrap,IntKind.signed,IntKind.bits];omega
theorem TE{α:Type}{l:List α}{i:Int}(a:0<=i)(h:i.toNat<l.length):bS l i=some l[i.toNat]:=by simp[bS,a,h]
theorem eR{α:Type}{l:List α}{i:Nat}(h:i<l.length):bS l (i:Int)=some l[i]:=by simp[bS,h]
theorem TC{s:BA}{i:Nat}(h:i<s.size):iC s (i:Int)=some s[i]:=by simp[iC,h]
theorem iS{α:Type}{b:Nat}{l k:List α}(h:(l.length+k.length)*b<=140737488355328)(a:0<b):eM b l k=some (l++k):=by
 have:l.length+k.length<=maxLen:=by
  have:(l.length+k.length)*1<=(l.length+k.length)*b:=Nat.mul_le_mul_left _ a
  simp only[maxLen];omega
 simp[eM,h,this]
theorem qOy{α:Type}{l:List α}{lo hi:Int}(a:0<=lo)(b:lo<=hi)(c:hi<=l.length):EJ l lo hi=some ((l.take hi.toNat).drop lo.toNat):=by simp[EJ,a,b,c]
theorem MZ{l:BA}{lo hi:Int}(a:0<=lo)(b:lo<=hi)(c:hi<=l.size):nD l lo hi=some (l.extract lo.toNat hi.toNat):=by simp[qBn,a,b,c]
theorem TJ{σ β:Type}{f:σ->Option (σ⊕β)}(I:σ->Prop)(μ:σ->Nat)(R:β->Prop)
  (h:∀s,I s->(∃b,f s=some (.inr b)/\R b)\/∃s',f s=some (.inl s')/\I s'/\μ s'<μ s):∀(N:Nat) (s:σ),I s->μ s<N->∃b,aK f N s=some b/\R b
 |0,_,_,d=>absurd d (gG _)
 |N+1,s,k,d=>by
  rcases h s k with ⟨b,a,c⟩|⟨s',a,c,l⟩
  .exact⟨b,by simp[aK,a],c⟩
  obtain⟨b,e,g⟩:=TJ I μ R h N s' c aa
  exact⟨b,by simp[aK,a,e],g⟩
end
end Go.Dc
section
namespace Go.Dc
def ab(a:Option Addr):Nat:=match a with|some p=>p.block|none=>0
def lI(a:Option Addr)(cs:Array Value)(e:TypeId):Piece:=match a with
 |none=> .room none 0 0 0 0
 |some p=> .blk p.block (.cells cs e (0,0))
def cU{α:Type}(f:α->List Value)(l:List α)(T:List Value):Array Value:=(l.flatMap f++T).toArray
def OAS(a:Option Addr)(n cap k:Nat)(T:List Value):Prop:=
 n<=cap/\cap<=maxLen/\match a with
  |none=>cap=0
  |some p=>p=⟨p.block,0,none⟩/\n*k+T.length=cap*k
theorem OAS.cast{α:Type}{a:Option Addr}{nn cap k:Nat}{T:List Value}{l:List α}(h:OAS a nn cap k T)(b:List.length l=nn):OAS a (List.length l) cap k T:=by rw[b];exact h
theorem OAS.nil(k:Nat):OAS none 0 0 k []:=⟨jP _,kG _,rfl⟩
theorem sU{α:Type}{f:α->List Value}{k:Nat}(a:∀x,(f x).length=k):∀l:List α,(l.flatMap f).length=l.length*k
 |[]=>by simp
 |x::l=>by simp[kQ,a,sU a l,kH,fT]
theorem DE{α:Type}{f:α->List Value}{k:Nat}(a:∀x,(f x).length=k):∀(l:List α) (i:Nat) (z:α) (j:Nat),l[i]? =some z->j<k->(l.flatMap f)[i*k+j]? =(f z)[j]?
 |[],i,z,j,h,_=>by simp at h
 |x::l,0,z,j,h,b=>by
  simp at h;subst h
  simp[kQ,List.getElem?_append,a,b]
 |x::l,i+1,z,j,h,b=>by
  have:=DE a l i z j (by simpa using h) b
  rw[kQ,List.getElem?_append_right (by rw[a,kH];omega),a]
  have e:(i+1)*k+j-k=i*k+j:=by rw[kH];omega
  rw[e];exact this
theorem qCk{α:Type}{f:α->List Value}{k:Nat}(a:∀x,(f x).length=k):∀(l:List α) (i:Nat) (z u:α),l[i]? =some z->
  (l.set i u).flatMap f=(l.flatMap f).take (i*k)++f u++(l.flatMap f).drop (i*k+k)
 |[],i,z,u,h=>by simp at h
 |x::l,0,z,u,h=>by
  rw[List.set_cons_zero,kQ,kQ,Nat.zero_mul,kW,List.take_zero,jW]
  rw[fZ,jQ (by rw[a];exact jP _),a]
  simp
 |x::l,i+1,z,u,h=>by
  have:=qCk a l i z u (by simpa using h)
  simp only[List.set_cons_succ,kQ,this]
  have b:(i+1)*k=(f x).length+i*k:=by rw[kH,a];omega
  have c:(i+1)*k+k=(f x).length+(i*k+k):=by omega
  rw[c,b,List.take_length_add_append,List.drop_length_add_append]
  simp[kM]
section
variable {P:Program} {n:Fr} {ops:Array Oper} {Q:Exit->Act->World->Prop} {i d:Nat} {L:bK} {w:World} {m:Mem} {own:List Piece} {N:bK->World->Prop}
variable {α:Type} {f:α->List Value}
theorem OAS.some{a:Option Addr}{nn cap k:Nat}{T:List Value}(h:OAS a nn cap k T){l:List α}(f:List.length l=nn){j:Nat}(e:j<l.length):a=Option.some ⟨ab a,0,none⟩:=by
 obtain⟨c,d,b⟩:=h
 cases a with
 |none=>simp only at b;omega
 |some p=>simp only at b;exact congrArg Option.some b.1
theorem SW{a:Option Addr}{b:Nat}{cs:Array Value}{e:TypeId}(h:a=some ⟨b,0,none⟩):lI a cs e= .blk b (.cells cs e (0,0)):=by subst h;rfl
theorem OA{l:List α}{ix:Int}{z:α}(h:bS l ix=some z):0<=ix/\l[ix.toNat]? =some z/\ix.toNat<l.length:=by
 unfold bS at h
 split at h
 .rename_i h0;exact⟨h0,h,(List.getElem?_eq_some_iff.1 h).1⟩
 cases h
theorem qKi{t e:TypeId}{x y:Operand}{a:Option Addr}{nn cc k:Nat}{T:List Value}{l:List α}{kd:IntKind}{ix:Int}{z:α}(v:dK ops L i=some (some d,.indexAddr t x y))(s:Nat.blt d n=true)
  (c:bV L x=some (.slice a nn cc)) (D:bV L y=some (.int kd ix)) (hi:qU P t=some (e,k)) (B:OAS a nn cc k T) (u:List.length l=nn) (E:bS l ix=some z)
  (h:N ((d,.pointer (some ⟨ab a,ix.toNat*k,none⟩))::L) w):eL P n ops Q i N L w:=by
 obtain⟨g,inf,o,p⟩:=xH hi
 obtain⟨f,_,b⟩:=OA E
 have r:=B.some u b
 refine mS v s (fun q A=> ?_) h
 have hlt':ix<(nn:Int):=by omega
 rw[r] at c
 simp[execOp,A,Instr.indexAt,cL c,cL D,asIntOf,run_underlying g,f,hlt',sizeOf,typeInfo,o,p,xJ]
theorem qKk{t e:TypeId}{x y:Operand}{a:Option Addr}{nn cc k:Nat}{l:List α}{T:List Value}{ix:Int}{z u:α}{o:Nat}{v:Value}(g:∀x,(f x).length=k)(po:Nat)(D:po=ix.toNat*k+o)(S:dK ops L i=some (none,.store t x y))
  (Y:bV L x=some (.pointer (some ⟨ab a,po,none⟩))) (Z:bV L y=some v) (st:St m (lI a (cU f l T) e::own) w) (U:OAS a nn cc k T) (R:List.length l=nn) (hz:bS l ix=some z) (d:xN P t v o k=true)
  (V:f u=(f z).take o++v.cells.toList++(f z).drop (o+v.cells.toList.length))
  (h:∀w',St m (lI a (cU f (l.set ix.toNat u) T) e::own) w'->N L w'):eL P n ops Q i N L w:=by
 obtain⟨h0,hz',s⟩:=OA hz
 have B:=U.some R s
 subst D
 rw[SW B] at st
 have c:=sU g l
 unfold xN at d
 cases hi:P.info? t with
 |none=>simp[hi] at d
 |some inf=>
  simp only[hi,jJ] at d
  obtain⟨⟨G,H⟩,K⟩:=d
  have h1':=fD G
  have h2':=kS H
  have a1:ix.toNat*k+k<=l.length*k:=by
   have:=kN k (show ix.toNat+1<=l.length from s)
   rw[kH,hD] at this;exact this
  have a2:v.cells.toList.length=v.cells.size:=by simp
  have E:ix.toNat*k+o+v.cells.toList.length<=(cU f l T).size:=by
   simp only[cU,gM,jF,c];omega
  have b:=run_storeCells_at P (ab a) (ix.toNat*k+o) e v.cells.toList 0 (cU f l T) w st.head.1 (by simpa using E) (YM K)
  simp only[gU] at b
  have A:((cU f l T).toList.take (ix.toNat*k+o)++v.cells.toList++(cU f l T).toList.drop (ix.toNat*k+o+v.cells.toList.length)).toArray=cU f (l.set ix.toNat u) T:=by
   apply congrArg List.toArray
   simp only[cU,hH]
   rw[qCk g l ix.toNat z u hz',V]
   have M:(l.flatMap f).take (ix.toNat*k+o)=(l.flatMap f).take (ix.toNat*k)++(f z).take o:=by
    apply dC
    intro j
    rw[List.getElem?_take,List.getElem?_append]
    simp only[fP,c]
    split
    .rename_i p
     split
     .rename_i hj2;rw[List.getElem?_take,if_pos aa]
     rename_i hj2
     rw[List.getElem?_take,if_pos aa]
     have r:=DE g l ix.toNat z (j-ix.toNat*k) hz' aa
     have F:ix.toNat*k+(j-ix.toNat*k)=j:=by omega
     rw[F] at r
     rw[r];congr 1;omega
    rename_i p
    rw[if_neg aa,List.getElem?_take,if_neg aa]
   have F:(l.flatMap f).drop (ix.toNat*k+o+v.cells.toList.length)=(f z).drop (o+v.cells.toList.length)++(l.flatMap f).drop (ix.toNat*k+k):=by
    apply dC
    intro j
    rw[List.getElem?_drop,List.getElem?_append]
    simp only[kP,g]
    split
    .rename_i p
     rw[List.getElem?_drop]
     have r:=DE g l ix.toNat z (o+v.cells.toList.length+j) hz' aa
     rw[<-r];congr 1;omega
    rename_i p
    rw[List.getElem?_drop];congr 1;omega
   rw[kO (by rw[c];omega),gC (by rw[c];omega),M,F]
   simp only[kM]
  rw[A] at b
  have st':=st.set (w':=w.setRow (ab a) (cU f (l.set ix.toNat u) T)) (o':= .cells (cU f (l.set ix.toNat u) T) e (0,0)) ⟨⟨rfl,rfl⟩,rfl,mP⟩ (setRow_heap w (ab a) (cU f l T) _ e _ st.head.1) (fun j _ p=>setRow_other w (ab a) j _ p)
  rw[<-SW (cs:=cU f (l.set ix.toNat u) T) (e:=e) B] at st'
  refine zD S (fun q r=> ?_) (h (w.setRow (ab a) (cU f (l.set ix.toNat u) T)) st')
  simp[execOp,r,Instr.storeAt,cL Y,cL Z,Instr.sureAddr,storeVar,sizeOf,typeInfo,hi,h1',b]
theorem St.freezeM{c:Codec α}{a:Option Addr}{e nn cc:Nat}{l:List α}{T:List Value}(st:St m (lI a (cU f l T) e::own) w)(G:OAS a nn cc c.sz T)(E:List.length l=nn)(r:∀x,(f x).length=c.sz)(D:∀m x,c.rep m x (f x)):
  ∃m',m.le m'/\St m' (.room a (List.length l) cc e c.sz::own) w/\RepS c m' a cc l:=by
 obtain⟨V,t,g⟩:=G
 cases a with
 |none=>
  simp only at g
  have d:l=[]:=jX aa
  subst d;subst g
  exact⟨m,m.le_refl,st.tail.nilroom e c.sz,RepS.nil c m⟩
 |some p=>
  simp only at g
  obtain⟨y,B⟩:=g
  obtain⟨b,o,s⟩:=p
  simp only[Addr.mk.injEq,true_and] at y
  obtain⟨rfl,rfl⟩:=y
  have n:=sU r l
  have z:(cU f l T).toList.take (l.flatMap f).length=l.flatMap f:=by simp[cU]
  have d:St m (.blk b (.cells (cU f l T) e (0,0))::own) w:=st
  obtain⟨m',K,M,R,S,U,Y⟩:=St.know (b:=b) (cs:=l.flatMap f) d.tail (d.head_ne rfl) d.head.1 z (fun o v A=>by rw[d.head.2.1 o] at A;cases A)
  have h:(cU f l T).size=cc*c.sz:=by simp[cU,n,E,B]
  refine⟨m',K,M.cons ⟨rfl,rfl,by omega,t,⟨_,d.head.1,h⟩,fun o F=>S o (by rw[n];exact F),by rw[U];exact d.head.2.2⟩ ?_,?_⟩
  .intro k u;simp[Piece.block] at u;subst u;exact d.head_ne rfl
  exact RepS.of_cells (cs:=l.flatMap f) aa t (fun j x H=>by
   have u:((l.flatMap f).drop (j*c.sz)).take c.sz=f x:=by
    apply dC
    intro q
    rw[List.getElem?_take]
    split
    .rename_i hq
     rw[List.getElem?_drop,DE r l j x q H hq]
    rename_i hq;rw[List.getElem?_eq_none (by rw[r];omega)]
   rw[u];exact D m' x) R
end
end Go.Dc
namespace Go.Dc
section
variable {P:Program} {n:Fr} {ops:Array Oper} {Q:Exit->Act->World->Prop} {L:bK} {w:World} {m:Mem} {own:List Piece}
variable {ks:List (Nat×(World->Prop))} {k fuel:Nat} {S:World->Prop} {done:List Nat}
theorem qVb{t t2:TypeId}{x y:Operand}{a b r:BA}(i d:Nat)(o:dK ops L i=some (some d,.binOp .add t x y t2))(l:Nat.blt d n=true)
  (p:nP ops ks k i done=true) (f:(k,S)∈ks) (g:QP Q) (s:bV L x=some (.string a)) (u:bV L y=some (.string b)) (c:dM a b=some r)
  (h:WA P n ops Q ks fuel (done++[i]) ((d,.string r)::L) w):WA P n ops Q ks (fuel+1) done L w:=by
 unfold dM at c
 split at c
 .rename_i hb
  simp only[jG] at c;subst c
  refine zJ i d _ _ o l p f g (fun q g w' _=> ?_) h
  have e:IntKind.i64.max=9223372036854775807:=by decide
  have hb':¬(9223372036854775807<(a.size:Int)+(b.size:Int)):=by simp only[maxLen] at hb;omega
  simp[execOp,g,cL s,cL u,eqGuard,binOp,Op.stringOp,e,hb']
 cases c
end
end Go.Dc
namespace Go.Dc
section
variable {P:Program} {n:Fr} {ops:Array Oper} {Q:Exit->Act->World->Prop} {L:bK} {w:World} {m:Mem} {own:List Piece}
variable {ks:List (Nat×(World->Prop))} {fuel:Nat} {done:List Nat} {α:Type} {f:α->List Value}
theorem tP(is:List Nat)(f:Region.ready .any ops (marks done ops.size)=is)(e:is≠[])
  (h:∀i∈is,eL P n ops Q i (fun L' w'=>TS ks (marks (done++[i]) ops.size) w'/\WA P n ops Q ks fuel (done++[i]) L' w') L w):WA P n ops Q ks (fuel+1) done L w:=by
 intro _ a l
 refine⟨fun c=>(by rw[f] at c;exact absurd c e),fun j d=> ?_⟩
 rw[f] at d
 refine NK (fun a' w' h'=> ?_) (h j d a l)
 obtain⟨L',g,b,k⟩:=h'
 have:=k b a' g
 rw[CS] at b
 rw[CS] at this
 exact⟨b,this⟩
theorem uO{p:Nat->Prop}{a b:Nat}(c:p a)(d:p b):∀i∈[a,b],p i:=by
 intro i hi;simp only[jI,gS,or_false] at hi
 rcases hi with rfl|rfl<;>assumption
theorem qOu{p:Nat->Prop}{a b c:Nat}(d:p a)(e:p b)(f:p c):∀i∈[a,b,c],p i:=by
 intro i hi;simp only[jI,gS,or_false] at hi
 rcases hi with rfl|rfl|rfl<;>assumption
theorem XH{q:Nat}{S:World->Prop}{t e:TypeId}{x y:Operand}{a:Option Addr}{nn cc k:Nat}{T:List Value}{l:List α}{kd:IntKind}{ix:Int}{z:α}(i d:Nat)(D:dK ops L i=some (some d,.indexAddr t x y))(A:Nat.blt d n=true)
  (g:nP ops ks q i done=true) (b:(q,S)∈ks) (c:QP Q)
  (o:bV L x=some (.slice a nn cc)) (F:bV L y=some (.int kd ix)) (hi:qU P t=some (e,k)) (E:OAS a nn cc k T) (B:List.length l=nn) (G:bS l ix=some z)
  (h:WA P n ops Q ks fuel (done++[i]) ((d,.pointer (some ⟨ab a,ix.toNat*k,none⟩))::L) w):WA P n ops Q ks (fuel+1) done L w:=by
 obtain⟨r,inf,s,u⟩:=xH hi
 obtain⟨p,_,f⟩:=OA G
 have v:=E.some B f
 refine zJ i d _ _ D A g b c (fun q c w' _=> ?_) h
 have hlt':ix<(nn:Int):=by omega
 rw[v] at o
 simp[execOp,c,Instr.indexAt,cL o,cL F,asIntOf,run_underlying r,p,hlt',sizeOf,typeInfo,s,u,xJ]
theorem YC{q:Nat}{S:World->Prop}{t e:TypeId}{x:Operand}{a:Option Addr}{nn cc k:Nat}{l:List α}{T:List Value}{ix:Int}{z:α}{o:Nat}{v:Value}(i d:Nat)(y:∀x,(f x).length=k)(po:Nat)(E:po=ix.toNat*k+o)(V:dK ops L i=some (some d,.load t x))(M:Nat.blt d n=true)
  (F:nP ops ks q i done=true) (p:(q,S)∈ks) (r:QP Q) (G:∀w,S w->Piece.holds m w (lI a (cU f l T) e))
  (hx:bV L x=some (.pointer (some ⟨ab a,po,none⟩))) (Y:OAS a nn cc k T) (U:List.length l=nn) (hz:bS l ix=some z) (Z:pY P t ((f z).drop o)=some v)
  (h:WA P n ops Q ks fuel (done++[i]) ((d,v)::L) w):WA P n ops Q ks (fuel+1) done L w:=by
 obtain⟨h0,hz',B⟩:=OA hz
 have H:=Y.some U B
 subst E
 refine zJ i d _ _ V M F p r (fun q r w' hw'=> ?_) h
 have D:=G w' hw'
 rw[SW H] at D
 have K:=D.1
 have R:=CY (P:=P) (w:=w') (t:=t) (b:=ab a) (o:=ix.toNat*k+o) (cs:=(f z).drop o) (v:=v) (fun j u s=>by
  rw[List.getElem?_drop] at s
  have A:o+j<k:=by rw[<-y z];exact(List.getElem?_eq_some_iff.1 s).1
  have c:=DE y l ix.toNat z (o+j) hz' A
  rw[s] at c
  have g:=(List.getElem?_eq_some_iff.1 c).1
  simp only[World.cell?,K,cU,List.getElem?_toArray]
  have e:ix.toNat*k+o+j=ix.toNat*k+(o+j):=by omega
  rw[e,List.getElem?_append_left g]
  simpa using c) Z
 simp[execOp,r,Instr.loadAt,cL hx,Instr.sureAddr,R]
end
end Go.Dc
namespace Go.Dc
section
variable {P:Program} {n:Fr} {ops:Array Oper} {Q:Exit->Act->World->Prop} {i d:Nat} {L:bK} {w:World} {m:Mem} {own:List Piece} {N:bK->World->Prop}
variable {α:Type} {f:α->List Value}
theorem qKz{c:Codec α}(g:∀m x cs,c.rep m x cs->cs=f x){k:List α}{cs:List Value}(b:cs.length=k.length*c.sz)(a:∀i y,k[i]? =some y->c.rep m y ((cs.drop (i*c.sz)).take c.sz)):cs=k.flatMap f:=by
 induction k generalizing cs with
 |nil=>simp at b;subst b;rfl
 |cons x k n=>
  have d:=g _ _ _ (a 0 x rfl)
  simp only[Nat.zero_mul,jS] at d
  have h:=n (cs:=cs.drop c.sz) (by simp only[kP,b,jA,kH];omega) (fun i y l=>by
   have:=a (i+1) y (by simpa using l)
   rw[dE]
   have e:c.sz+i*c.sz=(i+1)*c.sz:=by rw[kH];omega
   rw[e];exact this)
  rw[kQ,<-d,<-h,List.take_append_drop]
theorem qBy{a:Option Addr}{e sz:Nat}(st:St m (.room a 0 0 e sz::own) w):St m (lI a (cU f [] []) e::own) w:=by
 cases a with
 |none=>exact st.tail.nilroom 0 0
 |some p=>
  obtain⟨l,n,q,r,⟨cur,d,s⟩,g,h⟩:=st.head
  have b:cur=cU f [] []:=by
   have:cur.size=0:=by omega
   rw[Array.size_eq_zero_iff.1 this];rfl
  refine st.tail.cons ⟨by rw[d,b],⟨fun o=>g o aa,h⟩⟩ ?_
  intro k c
  have hk':some p.block=some k:=c
  simp only[jG] at hk';subst hk'
  exact st.head_ne rfl
end
end Go.Dc
namespace Go.Dc
theorem qPk{m m':Mem}{w:World}{a:Option Addr}{cs:Array Value}{e:TypeId}(h:Piece.holds m' w (lI a cs e))(b:m.le m'):Piece.holds m w (lI a cs e):=by
 cases a with
 |none=>exact h
 |some p=>exact Piece.holds_anti (o:= .cells cs e (0,0)) h b
end Go.Dc
namespace Go.Dc
section
variable {P:Program} {n:Fr} {ops:Array Oper} {Q:Exit->Act->World->Prop} {L:bK} {w:World}
theorem aB{id:Nat}{y:Code}(h:WO P n ops (Exit.then (fun a w=>y.wpIn (nM none) 0 P Q a w) Q) 0 L w):W none P n (.seq (.region id ops false) y) Q L w:=aF (aY h)
theorem qFj{i:Nat}{ρ:Option Nat}{y:Code}(hi:ops.size=i)(h:W ρ P n y Q L w):WO P n ops (Exit.then (fun a w=>y.wpIn (nM ρ) 0 P Q a w) Q) i L w:=qEu hi (aC h)
end
end Go.Dc
end
section
namespace Go.Dc
section
variable {P:Program} {n:Fr} {ops:Array Oper} {Q:Exit->Act->World->Prop} {i d:Nat} {L:bK} {w:World} {m:Mem} {own:List Piece} {N:bK->World->Prop}
def rE(a:Option Addr)(cap l k:Nat):Option Addr:=if cap=l then a else a.map fun p=>p.add (l*k)
theorem qPg{b o cap l k:Nat}(h:l<cap):rE (some ⟨b,o,none⟩) cap l k=some ⟨b,o+l*k,none⟩:=by
 unfold rE;rw[if_neg aa];simp[xJ]
theorem qNb{t e k:Nat}{x:Operand}{lo hi:Option Operand}{a:Option Addr}{nn cap:Nat}{li hix:Int}(g:bV L x=some (.slice a nn cap))(v:qU P t=some (e,k))
  (p:(lo=none/\li=0)\/∃y kd,lo=some y/\bV L y=some (.int kd li)) (n:(hi=none/\hix=nn)\/∃y kd,hi=some y/\bV L y=some (.int kd hix)) (h:0<=li) (u:li<=hix) (l:hix<=cap) (q:Oper) (f:q.op= .slice t x lo hi none) (w:World):
  (execOp (mQ L) q).run P w= .ok (.value (.slice (rE a cap li.toNat k) (hix.toNat-li.toNat) (cap-li.toNat))) w:=by
 obtain⟨b,inf,c,d⟩:=xH v
 have r:0<=hix:=by omega
 have o:li<=max hix 0:=by omega
 rcases p with ⟨rfl,rfl⟩|⟨y,kd,rfl,s⟩<;>rcases n with ⟨rfl,rfl⟩|⟨y',kd',rfl,hy'⟩
 .simp[execOp,f,Instr.sliceAt,Instr.slice,Instr.sliceBounds,run_underlying b,cL g,sizeOf,typeInfo,c,d,rE]
 .simp[execOp,f,Instr.sliceAt,Instr.slice,Instr.sliceBounds,Instr.sliceBound,asIntOf,run_underlying b,cL g,cL hy',r,l,sizeOf,typeInfo,c,d,rE]
 .have:li<=(nn:Int):=u
  simp[execOp,f,Instr.sliceAt,Instr.slice,Instr.sliceBounds,Instr.sliceBound,asIntOf,run_underlying b,cL g,cL s,h,this,sizeOf,typeInfo,c,d,rE]
 simp[execOp,f,Instr.sliceAt,Instr.slice,Instr.sliceBounds,Instr.sliceBound,asIntOf,run_underlying b,cL g,cL s,cL hy',r,l,h,o,sizeOf,typeInfo,c,d,rE]
theorem qOt{ks:List (Nat×(World->Prop))}{q fuel:Nat}{S:World->Prop}{done:List Nat}{t e k:Nat}{x:Operand}{lo hi:Option Operand}{a:Option Addr}{nn cap:Nat}{li hix:Int}(i d:Nat)(v:Value)(c:dK ops L i=some (some d,.slice t x lo hi none))(z:Nat.blt d n=true)
  (l:nP ops ks q i done=true) (b:(q,S)∈ks) (A:QP Q) (D:bV L x=some (.slice a nn cap)) (u:qU P t=some (e,k))
  (g:(lo=none/\li=0)\/∃y kd,lo=some y/\bV L y=some (.int kd li)) (f:(hi=none/\hix=nn)\/∃y kd,hi=some y/\bV L y=some (.int kd hix)) (p:0<=li) (r:li<=hix) (s:hix<=cap) (B: .slice (rE a cap li.toNat k) (hix.toNat-li.toNat) (cap-li.toNat)=v)
  (h:WA P n ops Q ks fuel (done++[i]) ((d,v)::L) w):WA P n ops Q ks (fuel+1) done L w:=by
 subst B
 exact zJ i d _ _ c z l b A (fun o c w' _=>qNb D u g f p r s o c w') h
theorem qBk{b o k nn cap sl:Nat}{C:Array Value}{e:TypeId}{S:List Value}(d:w.heap[b]? =some (.cells C e (0,0)))(c:(C.toList.drop o).take (nn*k)=S)(f:S.length=nn*k):
  (Builtin.firstCells k nn (.slice (some ⟨b,o,none⟩) sl cap)).run P w= .ok S.toArray w:=by
 refine run_firstCells_some w k nn ⟨b,o,none⟩ sl cap S f fun j v a=> ?_
 rw[<-c,List.getElem?_take] at a
 split at a
 .rw[List.getElem?_drop] at a
  rw[xJ]
  simp only[World.cell?,d]
  simpa using a
 cases a
theorem qNh{t u e k:Nat}{x y:Operand}{b o dl dc sl sc:Nat}{a:Option Addr}{C:Array Value}{c:TypeId}(S C':List Value)(G:dK ops L i=some (some d,.call {callee:= .builtin .copy,args:= #[x,y],argTypes:= #[t,u]}))(E:Nat.blt d n=true)
  (H:bV L x=some (.slice (some ⟨b,o,none⟩) dl dc)) (K:bV L y=some (.slice a sl sc)) (D:qU P t=some (e,k)) (st:St m (.blk b (.cells C c (0,0))::own) w)
  (p:(Builtin.firstCells k (Nat.min sl dl) (.slice a sl sc)).run P w= .ok S.toArray w) (g:o+S.length<=C.size) (l:∀v∈S,v.oneCell'=true) (B:C.toList.take o++S++C.toList.drop (o+S.length)=C')
  (h:∀w',St m (.blk b (.cells C'.toArray c (0,0))::own) w'->N ((d,.int .i64 ((Nat.min sl dl:Nat):Int))::L) w'):eL P n ops Q i N L w:=by
 subst B
 obtain⟨r,inf,s,z⟩:=xH D
 have f:=run_storeCells_at P b o c S 0 C w st.head.1 (by simpa using g) l
 simp only[gU] at f
 have st':=st.set (w':=w.setRow b (C.toList.take o++S++C.toList.drop (o+S.length)).toArray) (o':= .cells (C.toList.take o++S++C.toList.drop (o+S.length)).toArray c (0,0)) ⟨⟨rfl,rfl⟩,rfl,mP⟩ (setRow_heap w b C _ c _ st.head.1) (fun j _ F=>setRow_other w b j _ F)
 refine DC (v:=undef) (w':=w) G E (fun q A=> ?_)
 refine⟨_,_,?_,h _ st'⟩
 rw[<-z] at p
 simp only[execOp,A,resolve,Sem.run_bind,Sem.run_pure,Result.andThen_ok,invoke,builtin]
 simp[cL H,cL K,Builtin.copy_,run_underlying r,sizeOf,typeInfo,s,Builtin.lenOf,p,f,goInt]
end
end Go.Dc
namespace Go.Dc
end Go.Dc
end
namespace Go.Dc
section
variable {P:Program} {n:Fr} {ops:Array Oper} {Q:Exit->Act->World->Prop} {i d:Nat} {L:bK} {w:World} {m:Mem} {own:List Piece} {N:bK->World->Prop}
variable {ks:List (Nat×(World->Prop))} {fuel:Nat} {done:List Nat}
def pN(a b:BA):Int:=
 match(List.range (min a.size b.size)).find? fun i=>a[i]! !=b[i]! with
 |some i=>if a[i]! <b[i]! then-1 else 1
 |none=>if a.size<b.size then-1 else if a.size>b.size then 1 else 0
theorem qMf{f:FuncId}{fn:Func}{x y:Operand}{ts:Array TypeId}{s u:BA}(g:dK ops L i=some (some d,.call {callee:= .value (.func f),args:= #[x,y],argTypes:=ts}))(c:Nat.blt d n=true)
  (k : bV L x = some (.string s)) (l : bV L y = some (.string u)) (e : P.funcs[f]? = some fn) (a : (fn.name == "runtime.NumGoroutine", fn.body.isNone, (Extern.findNext fn).isNone) = (false, true, true)) (b : Extern.find fn = some Extern.BytealgCompare.compare)
  (h:N ((d,.int .i64 (pN s u))::L) w):eL P n ops Q i N L w:=by
 refine RR [.string s,.string u] _ g c (by simp[cL k,cL l]) e a b ?_ h
 rfl
end
section
variable {P:Program} {n:Fr} {ops:Array Oper} {Q:Exit->Act->World->Prop} {i d:Nat} {L:bK} {w:World} {m:Mem} {own:List Piece} {N:bK->World->Prop} {α:Type} {f:α->List Value}
def rS(l:List α)(lo hi:Int):Option Unit:=if 0<=lo/\lo<=hi/\hi<=l.length then some () else none
theorem qAr{l:List α}{lo hi:Int}{u:Unit}(h:rS l lo hi=some u):0<=lo/\lo<=hi/\hi<=l.length:=by
 unfold rS at h
 split at h
 .assumption
 cases h
theorem qCe{ks:List (Nat×(World->Prop))}{q fuel:Nat}{S:World->Prop}{done:List Nat}{t e k:Nat}{x:Operand}{lo hi:Option Operand}{a:Option Addr}{nn cc:Nat}{T:List Value}{l:List α}{li hix:Int}{u:Unit}(i d:Nat)(v:dK ops L i=some (some d,.slice t x lo hi none))(s:Nat.blt d n=true)
  (g:nP ops ks q i done=true) (b:(q,S)∈ks) (z:QP Q) (B:bV L x=some (.slice a nn cc)) (r:qU P t=some (e,k))
  (f:(lo=none/\li=0)\/∃y kd,lo=some y/\bV L y=some (.int kd li)) (c:(hi=none/\hix=nn)\/∃y kd,hi=some y/\bV L y=some (.int kd hix)) (A:OAS a nn cc k T) (F:List.length l=nn) (D:rS l li hix=some u)
  (h:WA P n ops Q ks fuel (done++[i]) ((d,.slice (rE a cc li.toNat k) (hix.toNat-li.toNat) (cc-li.toNat))::L) w):WA P n ops Q ks (fuel+1) done L w:=by
 obtain⟨o,p,E⟩:=qAr D
 have:=A.1
 exact qOt i d _ v s g b z B r f c o p aa rfl h
def sK(l:List α)(d0 s0:Nat):List α:=l.take d0++(l.drop s0).take (min (l.length-s0) (l.length-d0))++l.drop (d0+min (l.length-s0) (l.length-d0))
def wK(l:List α)(d0 s0:Int):Option (List α):=if 0<=d0/\d0<=l.length/\0<=s0/\s0<=l.length/\0<l.length then some (sK l d0.toNat s0.toNat) else none
theorem qOe{l:List α}{d0 s0:Nat}(a:d0<=l.length):(sK l d0 s0).length=l.length:=by
 simp only[sK,jF,fP,kP];omega
theorem YP{l r:List α}{d0 s0:Int}(h:wK l d0 s0=some r):∃d s:Nat,d0=(d:Int)/\s0=(s:Int)/\d<=l.length/\s<=l.length/\0<l.length/\r=sK l d s:=by
 unfold wK at h
 split at h
 .rename_i hb
  simp only[jG] at h
  exact⟨d0.toNat,s0.toNat,by omega,by omega,by omega,by omega,hb.2.2.2.2,h.symm⟩
 cases h
theorem qOf{l r:List α}{d0 s0:Int}(h:wK l d0 s0=some r):r.length=l.length:=by
 obtain⟨d,s,_,_,a,_,_,rfl⟩:=YP h
 exact qOe a
theorem RU{k:Nat}(a:∀x,(f x).length=k):∀(l:List α) (j:Nat),(l.flatMap f).take (j*k)=(l.take j).flatMap f
 |[],j=>by simp
 |x::l,0=>by simp
 |x::l,j+1=>by
  rw[kQ,List.take_succ_cons,kQ,List.take_append,a,show(j+1)*k-k=j*k by rw[kH,hD,hU],RU a l j,fA (by rw[a,kH];omega)]
theorem qBb{k:Nat}(a:∀x,(f x).length=k):∀(l:List α) (j:Nat),(l.flatMap f).drop (j*k)=(l.drop j).flatMap f
 |[],j=>by simp
 |x::l,0=>by simp
 |x::l,j+1=>by
  rw[kQ,List.drop_succ_cons,fZ,a,show(j+1)*k-k=j*k by rw[kH,hD,hU],qBb a l j,jQ (by rw[a,kH];omega),jW]
theorem QV{k:Nat}(a:∀x,(f x).length=k){l:List α}{T:List Value}{j:Nat}(c:j<=l.length):(cU f l T).toList.take (j*k)=(l.take j).flatMap f:=by
 have b:=sU a l
 simp only[cU]
 rw[kO (by rw[b];exact kN _ c),RU a]
theorem QR{k:Nat}(a:∀x,(f x).length=k){l:List α}{T:List Value}{j:Nat}(c:j<=l.length):(cU f l T).toList.drop (j*k)=(l.drop j).flatMap f++T:=by
 have b:=sU a l
 simp only[cU]
 rw[gC (by rw[b];exact kN _ c),qBb a]
theorem qOr{t u e k:Nat}{x y:Operand}{a:Option Addr}{nn cc:Nat}{T:List Value}{l r:List α}{s:TypeId}{d0 s0 G H:Int}(c:∀x,(f x).length=k)(D:∀x,∀v∈f x,v.oneCell'=true)(hk:0<k)
  (ho:dK ops L i=some (some d,.call {callee:= .builtin .copy,args:= #[x,y],argTypes:= #[t,u]})) (hd:Nat.blt d n=true)
  (p:bV L x=some (.slice (rE a cc d0.toNat k) (G.toNat-d0.toNat) (cc-d0.toNat))) (z:bV L y=some (.slice (rE a cc s0.toNat k) (H.toNat-s0.toNat) (cc-s0.toNat))) (e1:G=(l.length:Int)) (e2:H=(l.length:Int)) (hI:qU P t=some (e,k))
  (st:St m (lI a (cU f l T) s::own) w) (U:OAS a nn cc k T) (S:List.length l=nn) (hz:wK l d0 s0=some r)
  (h:∀(v:Int) w',St m (lI a (cU f r T) s::own) w'->N ((d,.int .i64 v)::L) w'):eL P n ops Q i N L w:=by
 obtain⟨dd,ss,rfl,rfl,E,F,g3,rfl⟩:=YP hz
 have B:=U.some S (show 0<l.length from g3)
 subst S
 obtain⟨q1,q2,q3⟩:=U
 rw[B] at q3
 simp only[true_and] at q3
 subst e1;subst e2
 rw[B] at p z st
 rw[B] at h
 generalize ab a=b at*
 have R:=sU c l
 simp only[kD] at p z
 have A:St m (.blk b (.cells (cU f l T) s (0,0))::own) w:=st
 have K:(cU f l T).size=cc*k:=by
  simp only[cU,gM,jF,R];omega
 have sl:∀j,j<=l.length->∃o,rE (some ⟨b,0,none⟩) cc j k=some ⟨b,o,none⟩/\o<=j*k/\(j<l.length->o=j*k):=by
  intro j g
  by_cases hc:cc=j
  .exact⟨0,by simp[rE,hc],kG _,fun h=>by omega⟩
  exact⟨j*k,by rw[qPg aa,kW],jP _,fun _=>rfl⟩
 obtain⟨o1,V,a3,Y⟩:=sl dd E
 obtain⟨o2,Z,a4,a1⟩:=sl ss F
 rw[V] at p
 rw[Z] at z
 generalize hM:min (l.length-ss) (l.length-dd)=M
 have hM':Nat.min (l.length-ss) (l.length-dd)=M:=hM
 have q:(((l.drop ss).take M).flatMap f).length=M*k:=by rw[sU c,fP,kP];congr 1;omega
 have a2:dd*k+M*k<=cc*k:=by rw[<-kH];exact kN _ aa
 refine qNh (((l.drop ss).take M).flatMap f) (cU f (sK l dd ss) T).toList ho hd p z hI A ?_ ?_ ?_ ?_ ?_
 .rw[hM']
  refine qBk A.head.1 ?_ q
  rcases Nat.eq_zero_or_pos M with g|g
  .simp[g]
  rw[a1 aa,QR c F,kO (by rw[sU c,kP];exact kN _ aa),RU c]
 .rw[q,K];omega
 .intro v hv
  obtain⟨x,_,p⟩:=fO.1 hv
  exact D x v p
 .rw[q]
  rcases Nat.eq_zero_or_pos M with g|g
  .have:sK l dd ss=l:=by simp only[sK,hM,g];simp
   rw[this,g];simp
  rw[Y aa,QV c E,<-kH,QR c (show dd+M<=l.length by omega)]
  simp only[sK,hM,cU,List.flatMap_append,kM]
 intro w' st'
 rw[hM']
 have g:St m (.blk b (.cells (cU f (sK l dd ss) T) s (0,0))::own) w':=by simpa using st'
 exact h _ w' g
theorem qKj{t u e by_ kk:Nat}{x y:Operand}{f:α->List Value}{v:Value}{a:Option Addr}{nn cc:Nat}{T:List Value}{l k r:List α}(H:∀x,(f x).length=kk)
  (ho:dK ops L i=some (some d,.call {callee:= .builtin .append,args:= #[x,y],argTypes:= #[t,u]})) (Z:Nat.blt d n=true)
  (U:bV L x=some (.slice a nn cc)) (hy:bV L y=some v) (st:St m (lI a (cU f l T) e::own) w) (hs:OAS a nn cc kk T) (hn:List.length l=nn) (hi:vY P t=some (e,kk,by_,kk)) (hu:wJ P u e)
  (R:∀w':World,Step w w'->w'.heap=w.heap->JP P w' kk v k.length (k.flatMap f)) (S:eM by_ l k=some r)
  (h:∀a' cap T' w',OAS a' (List.length r) cap kk T'->St m (lI a' (cU f r T') e::own) w'->N ((d,.slice a' (List.length r) cap)::L) w'):eL P n ops Q i N L w:=by
 obtain⟨ht,inf,z,E,hz',g,a2,a4⟩:=QH hi
 unfold eM at S
 split at S
 .rename_i hk
  obtain⟨k1,k2⟩:=hk
  simp only[jG] at S;subst S
  subst hn
  have B:=R w (Step.refl w) rfl
  have Y:=sU H l
  have V:=sU H k
  obtain⟨q1,q2,F⟩:=hs
  by_cases hroom:l.length+k.length<=cc
  .cases a with
   |none=>
    simp only at F
    have K:l=[]:=jX aa
    have A:k=[]:=jX aa
    subst K;subst A;subst F
    refine DC (v:=undef) (w':=w) ho Z (fun o G=> ?_)
    have c:=WY w t u o.type e inf ht hu E (x:=v) (news:=[]) (by rw[g];exact B)
    refine⟨_,_,?_,h none 0 [] w ⟨jP _,kG _,rfl⟩ st⟩
    simp only[execOp,G,resolve,Sem.run_bind,Sem.run_pure,Result.andThen_ok,invoke,builtin]
    simp only[jB] at U
    simp[cL U,cL hy,c]
   |some p=>
    simp only at F
    obtain⟨M,hT⟩:=F
    obtain⟨b,o,s⟩:=p
    simp only[Addr.mk.injEq,true_and] at M
    obtain⟨rfl,rfl⟩:=M
    have D:St m (.blk b (.cells (cU f l T) e (0,0))::own) w:=st
    have a3:(cU f l T).size=cc*kk:=by
     simp only[cU,gM,jF,Y];omega
    have a1:l.length*kk+k.length*kk<=cc*kk:=by rw[<-kH];exact kN _ hroom
    have hC:(cU f l T).toList.take (l.length*inf.size)++k.flatMap f++(cU f l T).toList.drop (l.length*inf.size+(k.flatMap f).length)=(cU f (l++k) (T.drop (k.length*kk))).toList:=by
     rw[g,V]
     have A:(cU f l T).toList.take (l.length*kk)=l.flatMap f:=by
      have:=QV (T:=T) H (jP l.length)
      rwa[fN] at this
     have e2:(cU f l T).toList.drop (l.length*kk+k.length*kk)=T.drop (k.length*kk):=by
      have:=QR (T:=T) H (jP l.length)
      rw[fY,List.flatMap_nil,jW] at this
      rw[<-dE,this]
     rw[A,e2]
     simp[cU,List.flatMap_append]
    refine DC (v:=undef) (w':=w) ho Z (fun q G=> ?_)
    have c:=XC w t u q.type e inf ht hu E (x:=v) (n:=k.length) (news:=k.flatMap f) (by rw[g];exact B) b l.length cc (cU f l T) D.head.1 hroom (by rw[g,V,a3];exact a1)
    rw[hC] at c
    have st':=D.set (w':=w.setRow b (cU f (l++k) (T.drop (k.length*kk))).toList.toArray) (o':= .cells (cU f (l++k) (T.drop (k.length*kk))).toList.toArray e (0,0)) ⟨⟨rfl,rfl⟩,rfl,mP⟩ (setRow_heap w b (cU f l T) _ e _ D.head.1) (fun j _ hj=>setRow_other w b j _ hj)
    have a5:St m (lI (some ⟨b,0,none⟩) (cU f (l++k) (T.drop (k.length*kk))) e::own) (w.setRow b (cU f (l++k) (T.drop (k.length*kk))).toList.toArray):=by simpa[lI] using st'
    have A:(l++k).length=l.length+k.length:=jF
    refine⟨.slice (some ⟨b,0,none⟩) (l++k).length cc,_,?_,h (some ⟨b,0,none⟩) cc (T.drop (k.length*kk)) _ ⟨by rw[A];exact hroom,q2,rfl,?_⟩ a5⟩
    .simp only[execOp,G,resolve,Sem.run_bind,Sem.run_pure,Result.andThen_ok,invoke,builtin]
     simp[cL U,cL hy,c,A]
    rw[A,kH,kP];omega
  have a3:cc<l.length+k.length:=by omega
  refine DC (v:=undef) (w':=w) ho Z (fun o G=> ?_)
  have a1:∀w':World,Step w w'->w'.heap=w.heap->(Builtin.firstCells inf.size l.length (.slice a l.length cc)).run P w'= .ok (l.flatMap f).toArray w':=fun w' _ hw=>by
   cases a with
   |none=>
    simp only at F
    have K:l=[]:=jX aa
    subst K
    simp[Builtin.firstCells]
   |some p=>
    simp only at F
    obtain⟨M,hT⟩:=F
    obtain⟨b,o,s⟩:=p
    simp only[Addr.mk.injEq,true_and] at M
    obtain⟨rfl,rfl⟩:=M
    have D:St m (.blk b (.cells (cU f l T) e (0,0))::own) w:=st
    rw[g]
    refine qBk (o:=0) (C:=cU f l T) (e:=e) (by rw[hw];exact D.head.1) ?_ Y
    rw[jS]
    have:=QV (T:=T) H (jP l.length)
    rwa[fN] at this
  have c:=WZ (ty:=o.type) w t u e inf z ht hu E hz' (n:=k.length) (news:=k.flatMap f) (by rw[g];exact B) a l.length cc (l.flatMap f)
   a1 (fun w' hs hw=>by rw[g];exact(R w' hs hw).2.1) a3 (by rw[a2];exact k1) k2
  generalize hgc:grownCap w (l.length+k.length) cc e=gc at c
  have M:l.length+k.length<=gc:=hgc▸grownCap_ge _ _ _ _
  have K:gc<=maxLen:=hgc▸grownCap_le_maxLen _ _ _ _ k2
  have D:(l.flatMap f++k.flatMap f).toArray++Builtin.zeroCells z.cells (gc-(l.length+k.length))=cU f (l++k) (Builtin.zeroCells z.cells (gc-(l.length+k.length))).toList:=by
   apply Array.ext';simp[cU]
  rw[D] at c
  have A:(l++k).length=l.length+k.length:=jF
  refine⟨.slice (some ⟨w.heap.size,0,none⟩) (l++k).length gc,_,?_,h (some ⟨w.heap.size,0,none⟩) gc _ _ ⟨by omega,K,rfl,?_⟩ (st.tail.alloc (w':=w.drew.alloc (.cells (cU f (l++k) (Builtin.zeroCells z.cells (gc-(l.length+k.length))).toList) e)) ⟨⟨rfl,rfl⟩,rfl,mP⟩ rfl)⟩
  .simp only[execOp,G,resolve,Sem.run_bind,Sem.run_pure,Result.andThen_ok,invoke,builtin]
   simp[cL U,cL hy,c,A]
  simp only[Array.length_toList,size_zeroCells,a4,A,<-kH]
  congr 1;omega
 cases S
theorem XW{t u e by_:Nat}{x y:Operand}{c:Codec α}{v:Value}{a:Option Addr}{nn cc:Nat}{T:List Value}{l k r:List α}(p:∀m x cs,c.rep m x cs->cs=f x)(A:∀x,(f x).length=c.sz)
  (E:dK ops L i=some (some d,.call {callee:= .builtin .append,args:= #[x,y],argTypes:= #[t,u]})) (z:Nat.blt d n=true)
  (H:bV L x=some (.slice a nn cc)) (K:bV L y=some v) (st:St m (lI a (cU f l T) e::own) w) (F:OAS a nn cc c.sz T) (D:List.length l=nn) (hi:vY P t=some (e,c.sz,by_,c.sz)) (G:wJ P u e)
  (B:DV P c m v k) (M:eM by_ l k=some r)
  (h:∀a' cap T' w',OAS a' (List.length r) cap c.sz T'->St m (lI a' (cU f r T') e::own) w'->N ((d,.slice a' (List.length r) cap)::L) w'):eL P n ops Q i N L w:=by
 obtain⟨cs,g,o⟩:=B
 obtain rfl:cs=k.flatMap f:=qKz p (g w st.inv).2.2.1 o
 exact qKj A E z H K st F D hi G (fun w' q s=>g w' (st.inv.keep q (fun b _ _=>by rw[s]))) M h
theorem qFh{l:List α}{lo hi:Int}{u:Unit}{nn:Nat}(h:rS l lo hi=some u)(d:List.length l=nn):0<=lo/\lo<=hi/\hi<=(nn:Int):=by
 obtain⟨a,b,c⟩:=qAr h
 exact⟨a,b,by omega⟩
end
end Go.Dc
section
namespace Go.Dc
def DM{α σ β ρ:Type}[DecidableEq ρ](f:Option α->σ->Option (σ⊕β))(l:List α)(s:σ)(K:β->Option ρ):Option ρ:=
 match(lM f l s).bind K with
 |none=>none
 |some b=>if((wM l).all fun k=>decide ((lM f k s).bind K=some b))then some b else none
theorem qLs{α σ β ρ:Type}[DecidableEq ρ]{f:Option α->σ->Option (σ⊕β)}{l:List α}{s:σ}{K:β->Option ρ}{b:ρ}(h:DM f l s K=some b):∀k,k.Perm l->(lM f k s).bind K=some b:=by
 unfold DM at h
 split at h
 .cases h
 rename_i b' hb
 split at h
 .rename_i hall
  simp only[jG] at h;subst h
  intro k a
  have:=jN.1 hall k (RX a)
  simpa using this
 cases h
theorem qNa{α σ β ρ:Type}[DecidableEq ρ]{f:Option α->σ->Option (σ⊕β)}{l:List α}{s:σ}{K:β->Option ρ}{b:ρ}(h:∀k,k.Perm l->(lM f k s).bind K=some b):DM f l s K=some b:=by
 unfold DM
 rw[h l (.refl _)]
 simp only
 rw[if_pos]
 exact jN.2 fun k a=>by simpa using h k (RK a)
def LoopP{α σ β:Type}(f:Option α->σ->Option (σ⊕β))(rem:List α)(s:σ)(Pk:β->Prop)(k:Nat):Prop:=(∀l,l.Perm rem->∃b,lM f l s=some b/\Pk b)/\rem.length<k
theorem LoopP.start{α σ β ρ:Type}[DecidableEq ρ]{f:Option α->σ->Option (σ⊕β)}{l:List α}{s:σ}{K:β->Option ρ}{b:ρ}(h:DM f l s K=some b):∃Pk:β->Prop,(∀o,Pk o->K o=some b)/\LoopP f l s Pk (l.length+1):=
 ⟨fun o=>K o=some b,fun _ h=>h,fun k d=>by obtain⟨o,a,c⟩:=jK.1 (qLs h k d);exact⟨o,a,c⟩,Nat.lt_succ_self _⟩
theorem LoopP.zero{α σ β:Type}{f:Option α->σ->Option (σ⊕β)}{rem:List α}{s:σ}{b:β->Prop}{p:Prop}(h:LoopP f rem s b 0):p:=absurd h.2 (gG _)
theorem LoopP.nil{α σ β:Type}{f:Option α->σ->Option (σ⊕β)}{rem:List α}{s:σ}{b:β->Prop}{k:Nat}(h:LoopP f rem s b (k+1))(g:rem=[]):
  ∃c,f none s=some c/\(∀s',c= .inl s'->LoopP f rem s' b k)/\(∀b',c= .inr b'->b b'):=by
 subst g
 obtain⟨o,this,e⟩:=h.1 [] (.refl _)
 simp only[lM] at this
 obtain⟨c,d,a⟩:=jK.1 this
 refine⟨c,d,?_,?_⟩
 .rintro s' rfl;simp at a
 rintro b' rfl
 simp only[jG] at a
 subst a;exact e
theorem LoopP.cons{α σ β:Type}{f:Option α->σ->Option (σ⊕β)}{rem rest:List α}{e:α}{s:σ}{b:β->Prop}{k:Nat}(h:LoopP f rem s b (k+1))(q:rem.Perm (e::rest)):
  ∃c,f (some e) s=some c/\(∀s',c= .inl s'->LoopP f rest s' b k)/\(∀b',c= .inr b'->b b'):=by
 have t:rem.length=rest.length+1:=by simpa using q.length_eq
 have key:∀l,l.Perm rest->∃o,lM f (e::l) s=some o/\b o:=fun l a=>h.1 _ ((a.cons e).trans q.symm)
 obtain⟨o,d,u⟩:=key rest (.refl _)
 simp only[lM] at d
 obtain⟨c,g,n⟩:=jK.1 d
 refine⟨c,g,?_,?_⟩
 .rintro s' rfl
  refine⟨fun l a=> ?_,by have:=h.2;omega⟩
  obtain⟨o2,p,r⟩:=key l a
  simp only[lM,g,j0] at p
  exact⟨o2,p,r⟩
 rintro b' rfl
 simp only[jG] at n
 subst n;exact u
end Go.Dc
namespace Go.Dc
end Go.Dc
end
namespace Go.Dc
section
open Go.Proofs Go.Shelf Go.Sort
theorem qQv{w w':World}{m':Mem}{own:List Piece}(c:Mem.le (tX w) m')(st:St m' own w'):∃q os,w'=grow (w.drewN q) os:=by
 have n:=st.1.2.2
 have p:m'.wd=w:=c.2.2.symm
 rw[p] at n
 obtain⟨⟨d,e⟩,f,g⟩:=n
 have g:=g rfl
 have l:∀(b:Nat) (x:Obj),w.heap[b]? =some x->w'.heap[b]? =some x:=fun b x o=>st.1.2.1 b x (c.2.1 b x o)
 refine⟨w'.drawn-w.drawn,w'.heap.extract w.heap.size w'.heap.size,?_⟩
 have r:w.heap.size<=w'.heap.size:=by
  rcases Nat.eq_zero_or_pos w.heap.size with h|h
  .omega
  have:=l (w.heap.size-1) _ (Array.getElem?_eq_getElem (show w.heap.size-1<w.heap.size by omega))
  have:=(Array.getElem?_eq_some_iff.1 this).1
  omega
 have a:w.heap++w'.heap.extract w.heap.size w'.heap.size=w'.heap:=by
  apply Array.ext
  .simp;omega
  intro i k s
  rw[Array.getElem_append]
  split
  .rename_i h7
   have:=l i _ (Array.getElem?_eq_getElem h7)
   exact((Array.getElem?_eq_some_iff.1 this).2).symm
  rename_i h7
  rw[Array.getElem_extract]
  congr 1;omega
 have k:w.drawn+(w'.drawn-w.drawn)=w'.drawn:=by omega
 cases w'
 simp only at d e f a k
 simp only[grow,World.drewN,d,e,f,a,k]
theorem YO{α:Type}[Inhabited α]{f:α->List Value}{k:Nat}(d:∀x,(f x).length=k)(l:List α)(t:Nat)(a:t<l.length*k):(l.flatMap f)[t]? =some (flatK f k l.toArray)[t]! :=by
 have g:0<k:=Nat.pos_of_ne_zero fun n=>by(subst n;simp at a)
 have c:t/k<l.length:=(Nat.div_lt_iff_lt_mul g).2 a
 have h:=Nat.mod_lt t g
 have o:l[t/k]? =some l[t/k]:=by simp[c]
 have e:t=(t/k)*k+t%k:=by rw[Nat.mul_comm];exact(Nat.div_add_mod t k).symm
 have b:=DE d l (t/k) _ (t%k) o h
 rw[<-e] at b
 rw[get_flatK _ _ _ t (by simpa using a),b]
 simp[c,d,h]
variable {P:Program} {ρ:Ren} {α:Type} [Inhabited α] {m:Mem} {own:List Piece} {w:World}
theorem qLt(L:SlLaysF0.n6 P ρ){k:Nat}{f:α->List Value}(aE:∀w,(isAgg (ρ.t 24)).run P w= .ok true w)(zE:∀w,(Go.sizeOf (ρ.t 24)).run P w= .ok k w)(q:∀x,(f x).length=k)(M:∀x,∀v∈f x,v.oneCell'=true)
  (cf:α->α->Int) (S:SWO (ltOf cf)) (U:∀x y,(ltOf cf) x y=false->(ltOf cf) y x=false->x=y) (g:Nat) (eg:∀args w,(callFunc g args).run P w= .ok (.enter g args) w)
  (G:∀(x y:α) (W:World),Calls P g #[.agg (f x).toArray,.agg (f y).toArray] W fun r w'=>∃m',r= .returned (.int .i64 (cf x y))/\(tX W).le m'/\St m' [] w')
  {a:Option Addr} {l:List α} {cap:Nat} {T:List Value} {e:TypeId} (st:St m (lI a (cU f l T) e::own) w) (V:OAS a l.length cap k T) (E:l.length<4611686018427387904):
  Calls P (ρ.f 6) #[.slice a l.length cap,.func (.func g) #[] #[]] w fun r w'=>r= .returned (.tuple #[])/\St m (lI a (cU f (l.mergeSort fun x y=> !(ltOf cf) y x) T) e::own) w':=by
 obtain⟨Y,Z,F⟩:=V
 cases a with
 |none=>
  simp only at F
  have c:l=[]:=jX aa
  subst c
  refine(AnyF.slices_SortFunc_none {L with} none cap (.func (.func g) #[] #[]) w).mono fun r w' h=> ?_
  obtain⟨rfl,rfl⟩:=h
  exact⟨rfl,by simpa using st⟩
 |some p=>
  simp only at F
  obtain⟨K,hT'⟩:=F
  obtain⟨b,o,s⟩:=p
  simp only[Addr.mk.injEq,true_and] at K
  obtain⟨rfl,rfl⟩:=K
  have B:St m (.blk b (.cells (cU f l T) e (0,0))::own) w:=st
  have z:=B.head.1
  have A:=sE z
  have u:=sU q l
  have R:HoldsK f k w b 0 l.toArray:=by
   intro j D
   have hj':j<l.length*k:=by simpa using D
   have c:(cU f l T)[j]? =some (flatK f k l.toArray)[j]! :=by
    simp only[cU,List.getElem?_toArray]
    rw[List.getElem?_append_left aa,YO q l j hj']
   refine⟨?_,?_⟩
   .simp only[World.cell?,z,kW]
    simpa using c
   simp[World.frozen?,z]
  refine(AnyQ.slices_SortFunc_total L k aE zE f q M cf S g #[] b 0 cap l.toArray w eg (fun m' os dk _ x y=> ?_) R A (by simpa using E) U).mono fun r w' h=> ?_
  .refine(G x y _).mono fun r w' h=> ?_
   obtain⟨m',rfl,c,st'⟩:=h
   exact⟨rfl,qQv c st'⟩
  obtain⟨rfl,n,os,rfl⟩:=h
  refine⟨rfl,?_⟩
  generalize hl':l.mergeSort (fun x y=> !(ltOf cf) y x)=l'
  have c:l'.length=l.length:=by rw[<-hl'];simp
  have hfl':=sU q l'
  have d:putCells id 0 (flatK f k l'.toArray) (cU f l T)=cU f l' T:=by
   apply Array.ext_getElem?
   intro t
   simp only[putCells,Array.getElem?_mapIdx,cU,List.getElem?_toArray,size_flatK,gM,kW,kG,true_and,Nat.sub_zero,id]
   by_cases ht:t<l'.length*k
   .rw[List.getElem?_append_left (l₁:=l'.flatMap f) aa,YO q l' t ht]
    have:(l.flatMap f++T)[t]? =some ((l.flatMap f++T)[t]'(by simp only[jF];rw[u,<-c];omega)):=by simp
    rw[this]
    simp[ht]
   rw[List.getElem?_append_right (l₁:=l'.flatMap f) aa,List.getElem?_append_right (l₁:=l.flatMap f) (by rw[u,<-c];omega),u,hfl',c]
   rw[c] at ht
   simp[ht,c]
  refine(B.set (w':=sortWorldK f k w b 0 n l'.toArray os) (o':= .cells (cU f l' T) e (0,0)) ⟨⟨rfl,rfl⟩,rfl,?_⟩ ?_ ?_:St m (.blk b (.cells (cU f l' T) e (0,0))::own) _)
  .intro _;show w.drawn<=w.drawn+n;omega
  .show((w.heap.modify b (onCells (putCells id 0 (flatK f k l'.toArray))))++os)[b]? =_
   rw[Array.getElem?_append_left (by simpa using A),Array.getElem?_modify,if_pos rfl,z]
   simp only[kK,onCells,d]
  intro j D H
  show((w.heap.modify b (onCells (putCells id 0 (flatK f k l'.toArray))))++os)[j]? =_
  rw[Array.getElem?_append_left (by simpa using D),Array.getElem?_modify,if_neg (Ne.symm H)]
end
section
open Go.Proofs Go.Shelf Go.Sort
structure Lin{α:Type}(c:α->α->Int):Prop where
 zero:∀x y,c x y=0↔x=y
 anti:∀x y,c x y<0↔0<c y x
 trans:∀x y z,c x y<0->c y z<0->c x z<0
theorem Lin.swo{α:Type}{c:α->α->Int}(h:Lin c):SWO (ltOf c) where
 irrefl x:=by simp only[ltOf,decide_eq_false_iff_not];have:=(h.zero x x).2 rfl;omega
 trans x y z h1 h2:=by simp only[ltOf,j6] at*;exact h.trans x y z h1 h2
 ntrans x y z h1 h2:=by
  simp only[ltOf,decide_eq_false_iff_not] at*
  intro a
  have g:=h.anti x y;have b:=h.anti y x;have k:=h.anti y z;have d:=h.anti z y
  by_cases e1:c x y=0
  .rw[(h.zero x y).1 e1] at a;exact h2 a
  by_cases e2:c y z=0
  .rw[<-(h.zero y z).1 e2] at a;exact h1 a
  have e:c y x<0:=b.2 aa
  have f:c z y<0:=d.2 aa
  have l:=h.trans z y x f e
  have:=(h.anti x z).1 a
  omega
theorem Lin.total{α:Type}{c:α->α->Int}(h:Lin c)(x y:α)(a:ltOf c x y=false)(b:ltOf c y x=false):x=y:=by
 simp only[ltOf,decide_eq_false_iff_not] at*
 have:=h.anti y x
 exact(h.zero x y).1 aa
def tV(x y:Int):Int:=if x<y then-1 else if x>y then 1 else 0
theorem qCr:Lin tV where
 zero x y:=by unfold tV;split<;>(try split)<;>omega
 anti x y:=by unfold tV;repeat' split<;>omega
 trans x y z:=by unfold tV;repeat' split<;>omega
def rQ{α β:Type}(c:α->α->Int)(d:β->β->Int)(x y:α×β):Int:=if c x.1 y.1≠0 then c x.1 y.1 else d x.2 y.2
theorem NI{α β:Type}{c:α->α->Int}{d:β->β->Int}(a:Lin c)(l:Lin d):Lin (rQ c d) where
 zero x y:=by
  have b:=a.zero x.1 y.1;have f:=l.zero x.2 y.2
  unfold rQ
  split
  .rename_i h;exact⟨fun g=>absurd g h,fun g=>absurd (b.2 (by rw[g])) h⟩
  rename_i h
  have h:=b.1 (Decidable.of_not_not h)
  rw[f];exact⟨fun g=>Prod.ext h g,fun g=>by rw[g]⟩
 anti x y:=by
  have b:=a.anti x.1 y.1;have f:=l.anti x.2 y.2;have k:=a.zero x.1 y.1;have n:=a.zero y.1 x.1
  unfold rQ
  by_cases e:x.1=y.1
  .rw[if_neg (by rw[ne_eq,Decidable.not_not,k];exact e),if_neg (by rw[ne_eq,Decidable.not_not,n];exact e.symm)];exact f
  rw[if_pos (fun g=>e (k.1 g)),if_pos (fun g=>e (n.1 g).symm)];exact b
 trans x y z g1 g2:=by
  have b:=a.zero x.1 y.1;have f:=a.zero y.1 z.1;have k:=a.zero x.1 z.1
  unfold rQ at*
  by_cases e1:x.1=y.1
  .rw[if_neg (by rw[ne_eq,Decidable.not_not,b];exact e1)] at g1
   by_cases e2:y.1=z.1
   .rw[if_neg (by rw[ne_eq,Decidable.not_not,f];exact e2)] at g2
    rw[if_neg (by rw[ne_eq,Decidable.not_not,k];exact e1.trans e2)]
    exact l.trans _ _ _ g1 g2
   rw[if_pos (fun g=>e2 (f.1 g))] at g2
   rw[if_pos (fun g=>e2 (e1.symm.trans (k.1 g))),e1];exact g2
  rw[if_pos (fun g=>e1 (b.1 g))] at g1
  by_cases e2:y.1=z.1
  .rw[if_pos (fun g=>e1 ((k.1 g).trans e2.symm)),<-e2];exact g1
  rw[if_pos (fun g=>e2 (f.1 g))] at g2
  have n:=a.trans _ _ _ g1 g2
  rw[if_pos aa];exact n
def oX:List UInt8->List UInt8->Int
 |[],[]=>0
 |[],_::_=> -1
 |_::_,[]=>1
 |x::l,y::k=>if x=y then oX l k else if x<y then-1 else 1
theorem qFp(x y:UInt8):x<y↔x.toNat<y.toNat:=Iff.rfl
theorem qVr{x y:UInt8}(h:x.toNat=y.toNat):x=y:=UInt8.toNat_inj.1 h
theorem cmpL_lin:Lin oX where
 zero:=by
  intro l
  induction l with
  |nil=>intro k;cases k<;>simp[oX]
  |cons x l c=>
   intro k
   cases k with
   |nil=>simp[oX]
   |cons y k=>
    simp only[oX]
    by_cases h:x=y
    .rw[if_pos h,c k,h];simp
    rw[if_neg h];split<;>simp[h]
 anti:=by
  intro l
  induction l with
  |nil=>intro k;cases k<;>simp[oX]
  |cons x l c=>
   intro k
   cases k with
   |nil=>simp[oX]
   |cons y k=>
    simp only[oX]
    by_cases h:x=y
    .rw[if_pos h,if_pos h.symm];exact c k
    rw[if_neg h,if_neg (Ne.symm h)]
    have:¬x.toNat=y.toNat:=fun e=>h (qVr e)
    simp only[qFp]
    split<;>split<;>omega
 trans:=by
  intro l
  induction l with
  |nil=>intro k m b a;cases k<;>cases m<;>simp[oX] at*
  |cons x l c=>
   intro k m b a
   cases k with
   |nil=>simp[oX] at b
   |cons y k=>
    cases m with
    |nil=>simp[oX] at a
    |cons z m=>
     simp only[oX,qFp] at*
     by_cases e1:x=y
     .subst e1
      rw[if_pos rfl] at b
      by_cases e2:x=z
      .rw[if_pos e2] at a ⊢;exact c k m b a
      rw[if_neg e2] at a ⊢;exact a
     rw[if_neg e1] at b
     have d:x.toNat<y.toNat:=by
      by_cases g:x.toNat<y.toNat
      .exact g
      rw[if_neg g] at b;omega
     by_cases e2:y=z
     .subst e2;rw[if_neg e1,if_pos d];omega
     rw[if_neg e2] at a
     have f:y.toNat<z.toNat:=by
      by_cases g:y.toNat<z.toNat
      .exact g
      rw[if_neg g] at a;omega
     rw[if_neg (fun e=>by rw[e] at d;omega),if_pos aa];omega
def EH(l k:List UInt8):Int:=match(List.range (min l.length k.length)).find? fun i=>l.getD i 0 !=k.getD i 0 with
 |some i=>if l.getD i 0<k.getD i 0 then-1 else 1
 |none=>if l.length<k.length then-1 else if l.length>k.length then 1 else 0
theorem qDu:∀l k:List UInt8,EH l k=oX l k
 |[],[]=>by simp[EH,oX]
 |[],_::_=>by simp[EH,oX]
 |_::_,[]=>by simp[EH,oX]
 |x::l,y::k=>by
  have b:=qDu l k
  unfold EH at b ⊢
  rw[show min (x::l).length (y::k).length=min l.length k.length+1 by simp only[jA];omega,List.range_succ_eq_map,List.find?_cons]
  by_cases h:x=y
  .subst h
   have a:((x::l).getD 0 0 !=(x::k).getD 0 0)=false:=by simp
   rw[a]
   simp only[List.find?_map,Function.comp_def,oX,jE]
   rw[<-b]
   have c:(fun i=>(x::l).getD (Nat.succ i) 0 !=(x::k).getD (Nat.succ i) 0)=fun i=>l.getD i 0 !=k.getD i 0:=by
    funext i;simp
   rw[c]
   cases(List.range (min l.length k.length)).find? fun i=>l.getD i 0 !=k.getD i 0 with
   |none=>simp
   |some i=>simp
  have a:((x::l).getD 0 0 !=(y::k).getD 0 0)=true:=by simpa using h
  rw[a]
  simp[oX,h]
theorem qPx(a:BA)(i:Nat):a[i]! =a.data.toList.getD i 0:=by
 by_cases h:i<a.size
 .have b:i<a.data.toList.length:=by simpa using h
  rw[getElem!_pos a i h,jU,List.getElem?_eq_getElem b]
  simp
  rfl
 have b:¬i<a.data.toList.length:=by simpa using h
 rw[getElem!_neg a i h,jU,List.getElem?_eq_none aa]
 rfl
theorem NY(a b:BA):pN a b=oX a.data.toList b.data.toList:=by
 rw[<-qDu]
 have c:a.data.toList.length=a.size:=by simp
 have d:b.data.toList.length=b.size:=by simp
 unfold pN EH
 rw[c,d]
 simp only[qPx]
 all_goals (generalize List.find? (fun i=>a.data.toList.getD i 0 !=b.data.toList.getD i 0) (List.range (min a.size b.size))=o;cases o<;>rfl)
theorem NQ:Lin pN where
 zero x y:=by
  rw[NY,cmpL_lin.zero]
  exact⟨fun h=>by cases x;cases y;simp at h;subst h;rfl,fun h=>by rw[h]⟩
 anti x y:=by rw[NY,NY];exact cmpL_lin.anti _ _
 trans x y z h1 h2:=by rw[NY] at*;exact cmpL_lin.trans _ _ _ h1 h2
def zV{α:Type}(lt:α->α->Bool)(x:α):List α->List α
 |[]=>[x]
 |y::l=>bif lt y x then y::zV lt x l else x::y::l
def xP{α:Type}(lt:α->α->Bool):List α->List α
 |[]=>[]
 |x::l=>zV lt x (xP lt l)
theorem SN{α:Type}{lt:α->α->Bool}{x:α}:∀l:List α,(zV lt x l).Perm (x::l)
 |[]=> .refl _
 |y::l=>by
  unfold zV
  cases lt y x with
  |true=>exact((SN l).cons y).trans (.swap x y l)
  |false=>exact .refl _
theorem CP{α:Type}{lt:α->α->Bool}:∀l:List α,(xP lt l).Perm l
 |[]=> .refl _
 |x::l=>(SN _).trans ((CP l).cons x)
theorem ZT{α:Type}{c:α->α->Int}(h:Lin c){x:α}:∀{l:List α},(l.Pairwise fun x y=>ltOf c y x=false)->(zV (ltOf c) x l).Pairwise fun x y=>ltOf c y x=false
 |[],_=>by simp[zV]
 |y::l,b=>by
  have hl':=jV.1 b
  unfold zV
  cases e:ltOf c y x with
  |true=>
   refine jV.2 ⟨fun z a=> ?_,ZT h hl'.2⟩
   rcases jI.1 ((SN l).mem_iff.1 a) with rfl|a
   .cases e2:ltOf c z y with
    |false=>rfl
    |true=>have:=h.swo.trans _ _ _ e e2;rw[h.swo.irrefl] at this;cases this
   exact hl'.1 z a
  |false=>
   refine jV.2 ⟨fun z a=> ?_,b⟩
   rcases jI.1 a with rfl|a
   .exact e
   exact h.swo.ntrans z y x (hl'.1 z a) e
theorem MQ{α:Type}{c:α->α->Int}(h:Lin c):∀l:List α,(xP (ltOf c) l).Pairwise fun x y=>ltOf c y x=false
 |[]=> .nil
 |_::l=>ZT h (MQ h l)
theorem RA{α:Type}{r:α->α->Prop}(anti:∀x y,r x y->r y x->x=y):∀{l k:List α},l.Perm k->l.Pairwise r->k.Pairwise r->l=k
 |[],_,h,_,_=>h.nil_eq
 |x::l,[],h,_,_=>absurd h.length_eq ae
 |x::l,y::k,h,b,a=>by
  have hl':=jV.1 b
  have hk':=jV.1 a
  have e:x=y:=by
   rcases jI.1 (h.mem_iff.1 (jL ..)) with e|c
   .exact e
   rcases jI.1 (h.mem_iff.2 (jL ..)) with e|d
   .exact e.symm
   exact anti _ _ (hl'.1 _ d) (hk'.1 _ c)
  subst e
  rw[RA anti h.cons_inv hl'.2 hk'.2]
theorem qNt{α:Type}{c:α->α->Int}(h:Lin c)(l:List α):(l.mergeSort fun x y=> !(ltOf c y x))=xP (ltOf c) l:=by
 refine RA (r:=fun x y=>ltOf c y x=false) (fun x y a b=>h.total x y b a) ((List.mergeSort_perm l _).trans (CP l).symm) ?_ (MQ h l)
 have:=List.pairwise_mergeSort (le:=fun x y=> !(ltOf c) y x) (fun x y z a b=>by
  simp only[fV] at*
  exact h.swo.ntrans z y x b a) (fun x y=>by
  simp only[fI,fV,ltOf,decide_eq_false_iff_not]
  have:=h.anti x y;omega) l
 exact this.imp fun h=>by simpa only[fV] using h
end
section
def JX{α:Type}(o:Option α):Option Unit:=o.map fun _=>()
theorem MapQ.at{κ ν:Type}{ek:κ->Value}{c:Codec ν}{agg:Bool}{m:Mem}{q:Option Nat}{es:Array MapEntry}{ck:Nat}{o:Option (List (κ×ν))}(h:MapQ ek c agg m q es ck o){u:Unit}(a:JX o=some u):∃b,q=some b:=by
 cases q with
 |none=>
  have h:o=none:=h
  subst h
  cases a
 |some b=>exact⟨b,rfl⟩
section
variable {P:Program} {n:Fr} {ops:Array Oper} {Q:Exit->Act->World->Prop} {L:bK} {w:World} {ch:List PanicEntry}
theorem bQ{K:Act->World->Prop}(h:X n Q (.panic ch) L w):X n (Exit.then K Q) (.panic ch) L w:=h
theorem iO{id:Nat}(h:X n Q (.panic ch) L w):X n (Exit.inBlock id Q) (.panic ch) L w:=h
theorem cN{k:Nat}{fn:Func}{R:Ending->World->Prop}(h:R (.panicked ch) w):X ⟨k,[]⟩ (bodyPost P fn R) (.panic ch) L w:=fun _ a=>⟨a.2.1,h⟩
variable {N:bK->World->Prop}
theorem qX{i:Nat}(d f:Nat)(args:Array Value)(q:tR P ops L i=some (some d,f,args))(k:Nat.blt d n=true)
  (h:Calls P f args w fun e w'=>(∃v,e= .returned v/\N ((d,v)::L) w')\/∃ch,e= .panicked ch/\X n Q (.panic ch) L w'):eL P n ops Q i N L w:=by
 obtain⟨o,c,g,r,p,l⟩:=YI q
 intro a b
 unfold nY
 simp only[c,b.wanted r,jE]
 rw[b.exec p,xL l w,Oper.uponIn_enter]
 refine⟨fun e=>by simp[Fence.wide] at e,CallsIn.mono (callsIn_wide.2 h) ?_⟩
 rintro e w' (⟨v,rfl,hk'⟩|⟨ch,rfl,hk'⟩)
 .rw[g];exact⟨_,b.put k v,hk'⟩
 exact hk' _ b
theorem RY{i:Nat}{x:Operand}{T:TypeId}{v:Value}(k:dK ops L i=some (none,.panic x))(l:bV L x=some (.iface T v))
  (h:X n Q (.panic [{v:= .iface T v,recovered:=false}]) L w):eL P n ops Q i N L w:=by
 obtain⟨o,d,p,e,f,g⟩:=CU k
 intro a b
 unfold nY
 simp only[d,b.wanted f,jE]
 rw[b.exec g]
 have c:(execOp (mQ L) o).run P w= .halt (.panic (.iface T v)) w:=by
  simp[execOp,e,cL l,Instr.panic]
 rw[c]
 exact h _ b
end
def fnV:Option Nat->Value
 |some f=> .func (.func f) #[] #[]
 |none=> .nilFunc
def eD:Codec (Option Nat) where
 sz:=1
 pos:=dI
 rep _ x cs:=cs=[fnV x]
 len:=by rintro _ _ _ rfl;rfl
 one:=by rintro _ x _ rfl v a;simp at a;subst a;cases x<;>rfl
 mono:=fun _ _ _ _ _ h=>h
theorem dynM{α:Type}{f g:Nat}{a b:Option α}{y:α}(c:(if f=g then a else b)=some y):f=g\/b=some y:=by
 by_cases h:f=g
 .exact .inl h
 rw[if_neg h] at c;exact .inr c
theorem vD{α:Type}{P:Program}{f g:Nat}{a b:Option α}{y:α}{args:Array Value}{w:World}{R:Ending->World->Prop}(c:(if f=g then a else b)=some y)
  (d:a=some y->Calls P g args w R) (e:b=some y->Calls P f args w R):Calls P f args w R:=by
 by_cases h:f=g
 .subst h;rw[if_pos rfl] at c;exact d c
 rw[if_neg h] at c;exact e c
section
variable {P:Program} {n:Fr} {ops:Array Oper} {Q:Exit->Act->World->Prop} {L:bK} {w:World} {i:Nat}
theorem qCv{f:FuncId}{fn:Func}{c:Code}{args:Array Value}{R:Ending->World->Prop}(e:P.funcs[f]? =some fn)(d:fn.body=some c){k:Nat}(g:fn.ntmps=k)(L:bK)
  (b:L.map (fun p=>(args[p.1]?))=L.map fun p=>some p.2) (a:Nat.ble args.size k=true) (h:W none P ⟨k,[]⟩ c (bodyPostD P fn R) L w):Calls P f args w R:=by
 refine calls_of_wp_defers e d (wpIn_wide.1 (h _ ⟨?_,rfl,?_⟩))
 .subst g
  have:args.size<=fn.ntmps:=kS a
  simp only[fW,fX];omega
 intro t v n
 have:=(gX.1 b) (t,v) (wE n)
 have l:t<args.size:=(Array.getElem?_eq_some_iff.1 this).1
 simp only[Array.getElem?_append,l,jE]
 exact this
def TZ(P:Program)(ops:Array Oper)(L:bK)(i:Nat):Option (Option Nat×Deferred):=
 match ops[i]? with
 |none=>none
 |some o=>match nO ops L o.guard with
  |some true=>bif oM L o.op then(match qO P (execOp (mQ L) o) with
   |some (.defer d)=>some (o.dst,d)
   |_=>none) else none
  |_=>none
theorem qKo{d:Option Nat}{x:Deferred}(h:TZ P ops L i=some (d,x)):
  ∃o,ops[i]? =some o/\o.dst=d/\nO ops L o.guard=some true/\oM L o.op=true/\qO P (execOp (mQ L) o)=some (.defer x):=by
 unfold TZ at h
 cases e:ops[i]? with
 |none=>simp[e] at h
 |some o=>
  simp only[e] at h
  cases a:nO ops L o.guard with
  |none=>simp[a] at h
  |some b=>
   cases b with
   |false=>simp[a] at h
   |true=>
    simp only[a] at h
    cases c:oM L o.op with
    |false=>simp[c] at h
    |true=>
     simp only[c,cond_true] at h
     split at h
     .rename_i f' he
      simp only[jG,Prod.mk.injEq] at h
      obtain⟨f,rfl⟩:=h
      exact⟨o,rfl,f,a,c,he⟩
     cases h
theorem qBo(x:Deferred)(hi:Nat.blt i ops.size=true)(g:TZ P ops L i=some (none,x))(h:WO P ⟨n.sz,x::n.marks⟩ ops Q (i+1) L w):WO P n ops Q i L w:=by
 obtain⟨o,c,d,k,f,e⟩:=qKo g
 intro a b
 rw[HR c,xX]
 unfold nY
 simp only[c,b.wanted k,jE]
 rw[b.exec f,xL e w,Oper.uponIn_defer,d]
 exact h _ ⟨b.1,congrArg (x:: ·) b.2.1,b.2.2⟩
def noP(Q:Exit->Act->World->Prop):Exit->Act->World->Prop
 | .panic _,_,_=>False
 |e,a,w=>Q e a w
theorem DI{ρ:Option Nat}{y:Code}{Q':Exit->Act->World->Prop}(h:W ρ P n y Q L w):X n (Exit.then (fun a w=>y.wpIn (nM ρ) 0 P Q a w) Q') .normal L w:=h
theorem qNj(h:X n Q .ret L w):X n (noP Q) .ret L w:=h
theorem DP{ρ:Option Nat}{x y:Code}(h:W ρ P n x (Exit.then (fun a w=>y.wpIn (nM ρ) 0 P Q a w) (noP Q)) L w):W ρ P n (.seq x y) Q L w:=fun a d=>by
 refine wpIn_seq (wpIn_mono (h a d) ?_)
 intro e a' w' b
 cases e with
 |panic c=>exact b.elim
 |_=>exact b
theorem qUy{k:Nat}{fn:Func}{R:Ending->World->Prop}(rvs:List ResultVar)(vs:List Value)(e:fn.results=rvs.toArray)(f:ResAll P w L rvs vs)(h:R (.returned (uN vs)) w):X ⟨k,[]⟩ (bodyPostD P fn R) .ret L w:=by
 intro a d
 obtain⟨b,c⟩:=oT (P:=P) (fn:=fn) (R:=R) rvs vs e f h a d
 show Leaves P fn a.tmps R a.defers .returning w
 rw[b]
 exact c
theorem UG{k g:Nat}{cap:Array Value}{fn:Func}{R:Ending->World->Prop}(rvs:List ResultVar)(d:fn.results=rvs.toArray)(l:∀args w,(callFunc g args).run P w= .ok (.enter g args) w)
  (h:CallsD P g (#[]++cap) .returning w fun e u w'=>u= .returning/\∃v,e= .returned v/\∃vs,ResAll P w' L rvs vs/\R (.returned (uN vs)) w'):
  X ⟨k,[{target:= .fn (.func g) cap,args:= #[]}]⟩ (bodyPostD P fn R) .ret L w:=by
 intro a b
 show Leaves P fn a.tmps R a.defers .returning w
 rw[b.2.1]
 refine leaves_cons ae (f:=g) (args:= #[]++cap) (by simp only[invoke];exact l _ _) (h.mono ?_)
 rintro e u w' ⟨rfl,v,rfl,vs,n,c⟩
 obtain⟨_,v',o,hR'⟩:=oT (P:=P) (k:=a.tmps.size) (fn:=fn) (R:=R) rvs vs d n c {a with defers:=[]} ⟨rfl,rfl,b.2.2⟩
 exact⟨v',o,hR'⟩
theorem qEo{k g:Nat}{cap:Array Value}{fn:Func}{z:Value}{R:Ending->World->Prop}(rvs:List ResultVar)(d:fn.results=rvs.toArray)(l:∀args w,(callFunc g args).run P w= .ok (.enter g args) w)
  (h:CallsD P g (#[]++cap) (.panicking [{v:=z,recovered:=false}]) w fun e u w'=>u= .panicking [{v:=z,recovered:=true}]/\∃v,e= .returned v/\∃vs,ResAll P w' L rvs vs/\R (.returned (uN vs)) w'):
  X ⟨k,[{target:= .fn (.func g) cap,args:= #[]}]⟩ (bodyPostD P fn R) (.panic [{v:=z,recovered:=false}]) L w:=by
 intro a b
 show Leaves P fn a.tmps R a.defers (.panicking [{v:=z,recovered:=false}]) w
 rw[b.2.1]
 refine leaves_cons ae (f:=g) (args:= #[]++cap) (by simp only[invoke];exact l _ _) (h.mono ?_)
 rintro e u w' ⟨rfl,v,rfl,vs,n,c⟩
 obtain⟨_,v',o,hR'⟩:=oT (P:=P) (k:=a.tmps.size) (fn:=fn) (R:=R) rvs vs d n c {a with defers:=[]} ⟨rfl,rfl,b.2.2⟩
 exact⟨v',o,hR'⟩
def UW(P:Program)(ops:Array Oper)(L:bK)(i:Nat):Option Nat:=
 match ops[i]? with
 |none=>none
 |some o=>match nO ops L o.guard with
  |some true=>bif oM L o.op then(match qO P (execOp (mQ L) o) with
   |some .recover=>o.dst
   |_=>none) else none
  |_=>none
theorem qMk{d:Nat}(h:UW P ops L i=some d):
  ∃o,ops[i]? =some o/\o.dst=some d/\nO ops L o.guard=some true/\oM L o.op=true/\qO P (execOp (mQ L) o)=some .recover:=by
 unfold UW at h
 cases e:ops[i]? with
 |none=>simp[e] at h
 |some o=>
  simp only[e] at h
  cases a:nO ops L o.guard with
  |none=>simp[a] at h
  |some b=>
   cases b with
   |false=>simp[a] at h
   |true=>
    simp only[a] at h
    cases c:oM L o.op with
    |false=>simp[c] at h
    |true=>
     simp only[c,cond_true] at h
     split at h
     .rename_i he;exact⟨o,rfl,h,a,c,he⟩
     cases h
theorem TA{QS:Exit->Act->List Frame->World->Prop}{cs:List Frame}:∀(k i:Nat) (L L':bK) (w:World),sO P n ops k i L=some L'->
  (∀a,Fits n a L'->wpOpsS P ops QS (List.range' (i+k) (ops.size-(i+k))) a cs w)->∀a,Fits n a L->wpOpsS P ops QS (List.range' i (ops.size-i)) a cs w
 |0,i,L,L',w,h,g=>by simp[sO] at h;subst h;exact g
 |k+1,i,L,L',w,h,g=>by
  intro a f
  simp only[sO] at h
  cases l:ops[i]? with
  |none=>simp[l] at h
  |some o=>
   simp only[l] at h
   rw[HR l]
   simp only[wpOpsS,l]
   cases q:nO ops L o.guard with
   |none=>simp[q] at h
   |some b=>
    have c:=f.wanted q
    cases b with
    |false=>
     simp only[q] at h
     obtain⟨L1,r,s⟩:=jK.1 h
     simp only[c,j9,jC]
     exact TA k (i+1) L1 L' w s (by rw[fK,fT 1 k];exact g) _ (f.putL r)
    |true=>
     simp only[q] at h
     cases e:oM L o.op with
     |false=>simp[e] at h
     |true=>
      simp only[e,cond_true] at h
      obtain⟨v,p,h⟩:=jK.1 h
      obtain⟨L1,r,s⟩:=jK.1 h
      simp only[c,jE]
      have next:=TA k (i+1) L1 L' w s (by rw[fK,fT 1 k];exact g) _ (f.putL r)
      rw[f.exec e]
      cases d:qO P (execOp (mQ L) o) with
      |none=>simp[d,JK] at p
      |some nx=>
       rw[xL d w]
       cases nx<;>simp[d,JK] at p
       case value u=>subst p;exact next
       case skip=>subst p;exact next
theorem qNo{fn:Func}{args:Array Value}{k:Nat}(c:fn.ntmps=k)(b:L.map (fun p=>(args[p.1]?))=L.map fun p=>some p.2)(a:Nat.ble args.size k=true):
  Fits ⟨k,[]⟩ {tmps:=args++Array.replicate (fn.ntmps-args.size) undef,defers:=[]} L:=by
 refine⟨?_,rfl,?_⟩
 .subst c
  have:args.size<=fn.ntmps:=kS a
  simp only[fW,fX];omega
 intro t v e
 have:=(gX.1 b) (t,v) (wE e)
 have d:t<args.size:=(Array.getElem?_eq_some_iff.1 this).1
 simp only[Array.getElem?_append,d,jE]
 exact this
def JD:FrameMode->Value×FrameMode
 | .panicking ({v,recovered:=false,goexit:=false}::older)=>(v,.panicking ({v,recovered:=true}::older))
 |u=>(.nilIface,u)
theorem HM{g:FuncId}{fn:Func}{id:Nat}{rest:Code}{args:Array Value}{R:Ending->World->Prop}(u:FrameMode)(H:P.funcs[g]? =some fn)(F:fn.body=some (.seq (.region id ops false) rest)){k:Nat}(M:fn.ntmps=k)(L:bK)
  (E:L.map (fun p=>(args[p.1]?))=L.map fun p=>some p.2) (A:Nat.ble args.size k=true) {d:Nat} (S:UW P ops L 0=some d) (z:Nat.blt d k=true) (L':bK) (v:Value) (u':FrameMode) (hu':JD u=(v,u'))
  (U:sO P k ops (ops.size-1) 1 ((d,v)::L)=some L')
  (h:W none P ⟨k,[]⟩ rest (bodyPost P fn R) L' w):CallsD P g args u w fun e b w'=>b=u'/\R e w':=by
 refine callsD_of_wpS H F fun c₀ cs V=> ?_
 apply wpS_seq
 apply wpS_region
 have f:Fits ⟨k,[]⟩ _ L:=qNo M E A
 revert f
 generalize ({tmps:=args++Array.replicate (fn.ntmps-args.size) undef,defers:=[]}:Act)=a
 intro f
 obtain⟨o,t,x,Y,K,G⟩:=qMk S
 have D:List.range ops.size=List.range' 0 (ops.size-0):=by rw[List.range_eq_range',Nat.sub_zero]
 rw[D,HR t]
 simp only[wpOpsS,t,f.wanted Y,jE]
 rw[f.exec K,xL G w]
 have c:∀cs',(∃b,b=u'/\cs'={c₀ with mode:=b}::cs)->∀a,Fits ⟨k,[]⟩ a ((d,v)::L)->wpOpsS P ops (Exit.thenS (rest.wpS P (bodyPostS P fn c₀ cs fun e b w'=>b=u'/\R e w')) (bodyPostS P fn c₀ cs fun e b w'=>b=u'/\R e w')) (List.range' (0+1) (ops.size-(0+1))) a cs' w:=by
  rintro cs' ⟨b,rfl,rfl⟩
  refine TA _ 1 _ _ w U ?_
  intro B y
  have:ops.size-(1+(ops.size-1))=0:=by omega
  rw[this]
  simp only[List.range'_zero,wpOpsS,Exit.thenS]
  refine wpS_of_wp (wpIn_wide.1 (wpIn_mono (h B y) ?_))
  intro e Z w2 l
  cases e with
  |normal=>obtain⟨n,q,r,s⟩:=l;exact⟨n,_,rfl,q,r,rfl,s⟩
  |ret=>obtain⟨n,q,r,s⟩:=l;exact⟨n,_,rfl,q,r,rfl,s⟩
  |panic ch=>obtain⟨n,q⟩:=l;exact⟨n,_,rfl,rfl,q⟩
  |outgrown=>exact⟨_,rfl,l⟩
  |exit _=>exact l.elim
  |goto _=>exact l.elim
 subst V
 have key:recoverD (c₀::cs)=(match JD c₀.mode with|(v,b)=>match c₀.mode with
   | .panicking ({v:=_,recovered:=false,goexit:=false}::_)=>some (v,{c₀ with mode:=b}::cs)
   |_=>none):=by
  unfold recoverD JD
  dsimp only
  split<;>simp_all
 rw[key,hu']
 dsimp only
 split
 .rename_i v1 cs1 hm
  split at hm
  .obtain⟨rfl,rfl⟩:=Prod.mk.inj (jD hm)
   rw[x]
   exact c _ ⟨_,rfl,rfl⟩ _ (f.put z v)
  cases hm
 rename_i hm
 have l:JD c₀.mode=(.nilIface,c₀.mode):=by
  unfold JD
  split
  .rename_i hc;rw[hc] at hm;cases hm
  rfl
 rw[l] at hu'
 obtain⟨rfl,rfl⟩:=Prod.mk.inj hu'
 rw[x]
 exact c _ ⟨_,rfl,by cases c₀;rfl⟩ _ (f.put z _)
end
theorem DF{σ β:Type}{f:σ->Option (σ⊕β)}(st:Nat->σ)(k:Nat)(res:β)(step:∀i,i<k->f (st i)=some (.inl (st (i+1))))(stop:f (st k)=some (.inr res)){N:Nat}(b:k<N):aK f N (st 0)=some res:=by
 have key:∀d i M,i+d=k->d<M->aK f M (st i)=some res:=by
  intro d
  induction d with
  |zero=>intro i M h a;obtain⟨M',rfl⟩:∃M',M=M'+1:=⟨M-1,by omega⟩;simp only[gU] at h;subst h;simp[aK,stop]
  |succ d c=>
   intro i M h a
   obtain⟨M',rfl⟩:∃M',M=M'+1:=⟨M-1,by omega⟩
   have:=c (i+1) M' aa aa
   simp[aK,step i aa,this]
 exact key k 0 N aa b
section
variable {ν:Type}
theorem qLr{l:List (Int×ν)}{k c:Int}{v:ν}(h:c≠k):dP (l.map fun p=>if k=p.1 then(k,v) else p) c=dP l c:=by
 induction l with
 |nil=>rfl
 |cons p l a=>
  simp only[kJ,dP]
  by_cases hk:k=p.1
  .subst hk;rw[if_pos rfl,if_neg h,if_neg h,a]
  rw[if_neg hk,a]
theorem qLb{l:List (Int×ν)}{k:Int}{v:ν}(h:(dP l k).isSome=true):dP (l.map fun p=>if k=p.1 then(k,v) else p) k=some v:=by
 induction l with
 |nil=>cases h
 |cons p l a=>
  simp only[kJ,dP] at h ⊢
  by_cases hk:k=p.1
  .subst hk;simp
  rw[if_neg hk] at h ⊢
  rw[if_neg hk]
  exact a h
theorem qOq{l:List (Int×ν)}{k:Int}{v:ν}(h:dP l k=none)(c:Int):dP (mins l k v) c=if c=k then some v else dP l c:=by
 induction l with
 |nil=>rfl
 |cons p l a=>
  simp only[dP] at h
  split at h
  .cases h
  rename_i hk
  simp only[mins]
  split
  .simp only[dP]
  simp only[dP,a h]
  by_cases hc:c=k
  .subst hc;simp[hk]
  simp[hc]
theorem qOz(l:List (Int×ν))(k:Int)(v:ν)(c:Int):dP (mset l k v) c=if c=k then some v else dP l c:=by
 unfold mset
 split
 .rename_i h
  split
  .rename_i hc;subst hc;exact qLb h
  rename_i hc;exact qLr hc
 rename_i h
 exact qOq (by simpa using h) c
def Srt(l:List (Int×ν)):Prop:=(l.map (·.1)).Pairwise (· < ·)
theorem Srt.nil:Srt ([]:List (Int×ν)):=List.Pairwise.nil
theorem Srt.mins{l:List (Int×ν)}{k:Int}{v:ν}(d:Srt l)(h:dP l k=none):Srt (mins l k v):=by
 induction l with
 |nil=>simp[Srt,Go.Dc.mins]
 |cons p l f=>
  have hs':=d
  simp only[Srt,kJ,jV] at d
  simp only[dP] at h
  split at h
  .cases h
  rename_i hk
  simp only[Go.Dc.mins]
  split
  .rename_i b
   have b:k<p.1:=by simpa[KOrd.lt] using b
   refine jV.2 ⟨fun a c=> ?_,hs'⟩
   simp only[kJ,jI] at c
   rcases c with rfl|c
   .exact b
   exact Int.lt_trans b (d.1 a c)
  rename_i b
  have b:¬k<p.1:=by simpa[KOrd.lt] using b
  refine jV.2 ⟨fun a c=> ?_,f d.2 h⟩
  obtain⟨q,e,rfl⟩:=fE.1 c
  rcases jI.1 ((qAq l k v).mem_iff.1 e) with rfl|e
  .show p.1<k;omega
  exact d.1 _ (gN e)
theorem Srt.mset{l:List (Int×ν)}(a:Srt l)(k:Int)(v:ν):Srt (mset l k v):=by
 unfold Go.Dc.mset
 split
 .unfold Srt
  have:(l.map fun p=>if k=p.1 then(k,v) else p).map (·.1)=l.map (·.1):=by
   rw[List.map_map]
   refine List.map_congr_left fun p _=> ?_
   simp only[Function.comp_apply]
   split
   .rename_i h;exact h
   rfl
  rw[this];exact a
 rename_i h
 exact a.mins (by simpa using h)
theorem Srt.out{l:List (Int×ν)}{c:Int}(h:∀a∈l.map (·.1),c<a):dP l c=none:=by
 rw[SD];intro b;exact Int.lt_irrefl _ (h c b)
theorem Srt.ext:∀{l k:List (Int×ν)},Srt l->Srt k->(∀c,dP l c=dP k c)->l=k
 |[],[],_,_,_=>rfl
 |[],q::k,_,_,h=>by have:=h q.1;simp[dP] at this
 |p::l,[],_,_,h=>by have:=h p.1;simp[dP] at this
 |p::l,q::k,n,g,h=>by
  have hl':(∀a∈l.map (·.1),p.1<a)/\Srt l:=jV.1 n
  have hk':(∀a∈k.map (·.1),q.1<a)/\Srt k:=jV.1 g
  have e:p.1=q.1:=by
   rcases Int.lt_trichotomy p.1 q.1 with d|f|d
   .have:=h p.1
    rw[Srt.out (l:=q::k) (c:=p.1)] at this
    .simp[dP] at this
    intro a b
    rcases jI.1 b with rfl|b
    .exact d
    exact Int.lt_trans d (hk'.1 a b)
   .exact f
   have:=h q.1
   rw[Srt.out (l:=p::l) (c:=q.1)] at this
   .simp[dP] at this
   intro a b
   rcases jI.1 b with rfl|b
   .exact d
   exact Int.lt_trans d (hl'.1 a b)
  have d:p.2=q.2:=by have:=h p.1;simpa[dP,e] using this
  have f:l=k:=by
   refine Srt.ext hl'.2 hk'.2 fun c=> ?_
   by_cases hc:c=p.1
   .rw[Srt.out (l:=l) (fun a b=>hc▸hl'.1 a b),Srt.out (l:=k) (fun a b=>by rw[hc,e];exact hk'.1 a b)]
   have:=h c
   simpa[dP,hc,e▸hc] using this
  rw[f,Prod.ext e d]
def rL(v:ν)(m:List (Int×ν))(xs:List UInt8):List (Int×ν):=xs.foldl (fun m x=>mset m (x.toNat:Int) v) m
theorem ZN{v:ν}:∀{xs:List UInt8} {m:List (Int×ν)},Srt m->Srt (rL v m xs)
 |[],_,h=>h
 |_::xs,_,h=>ZN (xs:=xs) (h.mset _ _)
theorem YX{v:ν}(c:Int):∀(xs:List UInt8) (m:List (Int×ν)),dP (rL v m xs) c=if xs.any (fun x=>decide ((x.toNat:Int)=c))then some v else dP m c
 |[],m=>by simp[rL]
 |x::xs,m=>by
  have:=YX (v:=v) c xs (mset m (x.toNat:Int) v)
  rw[show rL v m (x::xs)=rL v (mset m (x.toNat:Int) v) xs from rfl,this,qOz]
  by_cases h1:xs.any (fun x=>decide ((x.toNat:Int)=c))=true
  .simp[h1]
  by_cases h2:(x.toNat:Int)=c
  .subst h2;simp[h1]
  have a:¬c=(x.toNat:Int):=fun e=>h2 e.symm
  simp[h1,h2,a]
end
theorem Mem.le.t{a b c:Mem}(h:a.le b)(k:b.le c):a.le c:=Mem.le_trans h k
theorem sI{α:Type}{a b:α}(h:some a=some b):a=b:=jD h
abbrev GoOn(K:Value->Prop):Ending->Prop
 | .returned v=>K v
 |_=>False
abbrev GoOnF(K:Value->Prop)(F:List PanicEntry->Prop):Ending->Prop
 | .returned v=>K v
 | .panicked ch=>F ch
 |_=>False
theorem GoOn.out{K:Value->Prop}{e:Ending}(h:GoOn K e):∃v,e= .returned v/\K v:=by
 cases e<;>first|exact⟨_,rfl,h⟩|exact h.elim
theorem GoOnF.out{K:Value->Prop}{F:List PanicEntry->Prop}{e:Ending}(h:GoOnF K F e):(∃v,e= .returned v/\K v)\/∃ch,e= .panicked ch/\F ch:=by
 cases e<;>first|exact .inl ⟨_,rfl,h⟩|exact .inr ⟨_,rfl,h⟩|exact h.elim
section
variable {ρ:Option Nat} {P:Program} {n:Fr} {ops:Array Oper} {Q:Exit->Act->World->Prop} {i:Nat} {L:bK} {w:World} {m:Mem} {own:List Piece} {N:bK->World->Prop}
theorem qSs{α β:Type}{f:Nat}{args:Array Value}{x:Option β}{k:β->Option α}{r:α}{T:β->Ending->World->Prop}(d:Nat)(o:x.bind k=some r)(c:∀y,x=some y->Calls P f args w (T y))
  (h:∀y,k y=some r->∀e w',T y e w'->GoOn (fun v=>N ((d,v)::L) w') e) (l:tR P ops L i=some (some d,f,args):=by kernel_rfl) (g:Nat.blt d n=true:=by exact rfl):eL P n ops Q i N L w:=by
 obtain⟨y,a,b⟩:=jK.1 o
 exact nN d f args l g ((c y a).mono fun e w' p=>(h y b e w' p).out)
theorem eJ{α β:Type}{f:Nat}{args:Array Value}{x:Option β}{k:β->Option α}{r:α}{T:β->Ending->World->Prop}(d:Nat)(o:x.bind k=some r)(c:∀y,x=some y->Calls P f args w (T y))
  (h:∀y,k y=some r->∀e w',T y e w'->∃v,e= .returned v/\N ((d,v)::L) w') (l:tR P ops L i=some (some d,f,args):=by kernel_rfl) (g:Nat.blt d n=true:=by exact rfl):eL P n ops Q i N L w:=by
 obtain⟨y,a,b⟩:=jK.1 o
 exact nN d f args l g ((c y a).mono fun e w' p=>h y b e w' p)
theorem qUr{α β:Type}{f:Nat}{args:Array Value}{x:Option β}{k:β->Option α}{r:α}{T:β->Ending->World->Prop}(d:Nat)(g:x.bind k=some r)(a:∀y,x=some y->Calls P f args w (T y))
  (h:∀y,k y=some r->∀e w',T y e w'->GoOn (fun v=>WO P n ops Q (i+1) ((d,v)::L) w') e) (c:tR P ops L i=some (some d,f,args):=by kernel_rfl) (b:Nat.blt d n=true:=by exact rfl) (hi:Nat.blt i ops.size=true:=by exact rfl):WO P n ops Q i L w:=
 qZ hi (qSs d g a h c b)
theorem qPl{α β:Type}{f:Nat}{args:Array Value}{x:Option β}{k:β->Option α}{r:α}{T:β->Ending->World->Prop}(d:Nat)(o:x.bind k=some r)(c:∀y,x=some y->Calls P f args w (T y))
  (h:∀y,k y=some r->∀e w',T y e w'->GoOnF (fun v=>N ((d,v)::L) w') (fun ch=>X n Q (.panic ch) L w') e) (l:tR P ops L i=some (some d,f,args):=by kernel_rfl) (g:Nat.blt d n=true:=by exact rfl):eL P n ops Q i N L w:=by
 obtain⟨y,a,b⟩:=jK.1 o
 exact qX d f args l g ((c y a).mono fun e w' p=>(h y b e w' p).out)
theorem qSa{α β:Type}{f:Nat}{args:Array Value}{x:Option β}{k:β->Option α}{r:α}{T:β->Ending->World->Prop}(d:Nat)(g:x.bind k=some r)(a:∀y,x=some y->Calls P f args w (T y))
  (h:∀y,k y=some r->∀e w',T y e w'->GoOnF (fun v=>WO P n ops Q (i+1) ((d,v)::L) w') (fun ch=>X n Q (.panic ch) L w') e) (c:tR P ops L i=some (some d,f,args):=by kernel_rfl) (b:Nat.blt d n=true:=by exact rfl) (hi:Nat.blt i ops.size=true:=by exact rfl):WO P n ops Q i L w:=
 qZ hi (qPl d g a h c b)
def zN:List Value->Nat->bK
 |[],_=>[]
 |v::l,k=>(k,v)::zN l (k+1)
theorem qAu:∀(l:List Value) (k:Nat) (pre:List Value),pre.length=k->(zN l k).map (fun p=>((pre++l).toArray[p.1]?))=(zN l k).map fun p=>some p.2
 |[],_,_,_=>rfl
 |v::l,k,pre,h=>by
  simp only[zN,kJ]
  have a:=qAu l (k+1) (pre++[v]) (by simp[h])
  rw[show pre++[v]++l=pre++v::l by simp] at a
  rw[a]
  congr 1
  subst h
  simp
theorem nT{f:FuncId}{fn:Func}{c:Code}{args:Array Value}{R:Ending->World->Prop}{k:Nat}(d:P.funcs[f]? =some fn)(b:fn.body=some c)(e:fn.ntmps=k)(h:W none P ⟨k,[]⟩ c (bodyPost P fn R) (zN args.toList 0) w)
  (a:Nat.ble args.size k=true:=by exact rfl):Calls P f args w R:=
 qTf d b e (zN args.toList 0) (by have:=qAu args.toList 0 [] rfl;simpa using this) a h
theorem aJ{α:Type}{c:Operand}{x y:Code}{b:Bool}{A B:Option α}{r:α}(a:(if b then A else B)=some r)
  (f:b=true->A=some r->W ρ P n x Q L w) (e:b=false->B=some r->W ρ P n y Q L w) (d:bV L c=some (.bool b):=by kernel_rfl):W ρ P n (.cond c x y) Q L w:=
 pI b d (fun h=>f h (by rw[if_pos h] at a;exact a)) (fun h=>e h (by rw[if_neg (by rw[h];exact gK)] at a;exact a))
theorem aQ{y:Code}(h:W ρ P n y Q L w)(hi:ops.size=i:=by exact rfl):WO P n ops (Exit.then (fun a w=>y.wpIn (nM ρ) 0 P Q a w) Q) i L w:=qFj hi h
theorem aA(k:Nat)(new:bK)(h:WO P n ops Q (i+k) (new++L) w)(a:zK P n ops k i L (new.map (·.1))=some (new.map fun p=>some p.2):=by kernel_rfl)
 (b:wB L new (vF ops k i)=true:=by kernel_rfl):WO P n ops Q i L w:=UP k new a b h
theorem bH{e:TypeId}{b:Nat}{c:Array Value}{f:Nat×Nat}(k d t x o:Nat)(v:Value)(q:Piece.holds m w (.blk b (.cells c e f)))(h:WO P n ops Q (i+k+1) ((d,v)::(x,.pointer (some ⟨b,o,none⟩))::L) w)
  (a:zK P n ops k i L [x]=some [some (.pointer (some ⟨b,o,none⟩))]:=by kernel_rfl) (g:wB L [(x,.pointer (some ⟨b,o,none⟩))] (vF ops k i)=true:=by kernel_rfl)
  (p:dK ops ((x,.pointer (some ⟨b,o,none⟩))::L) (i+k)=some (some d,.load t (.tmp x)):=by kernel_rfl) (l:Nat.blt d n=true:=by exact rfl) (r:pY P t (c.toList.drop o)=some v:=by kernel_rfl) (hi:Nat.blt (i+k) ops.size=true:=by exact rfl):WO P n ops Q i L w:=
 UP k [(x,.pointer (some ⟨b,o,none⟩))] a g (qZ hi (QT v p l (by simp[bV,iB]) q r h))
theorem aG{y:Code}(k:Nat)(new:bK)(h:W ρ P n y Q (new++L) w)(b:zK P n ops k i L (new.map (·.1))=some (new.map fun p=>some p.2):=by kernel_rfl)
 (c:wB L new (vF ops k i)=true:=by kernel_rfl) (hi:ops.size=i+k:=by exact rfl):WO P n ops (Exit.then (fun a w=>y.wpIn (nM ρ) 0 P Q a w) Q) i L w:=UP k new b c (qFj hi h)
theorem iG{b:Nat}{cs:List Value}(d t x o:Nat)(v:Value)(a:St m own w)(f:MRow m b o cs)(h:WO P n ops Q (i+1) ((d,v)::L) w)
 (e:dK ops L i=some (some d,.load t (.tmp x)):=by kernel_rfl) (c:Nat.blt d n=true:=by exact rfl) (k:bV L (.tmp x)=some (.pointer (some ⟨b,o,none⟩)):=by kernel_rfl) (g:pY P t cs=some v:=by kernel_rfl)
 (hi:Nat.blt i ops.size=true:=by exact rfl):WO P n ops Q i L w:=qZ hi (XI v e c k a f g h)
theorem aW{k:Nat}{fn:Func}{R:Ending->World->Prop}(ts:List Nat)(vs:List Value)(h:R (.returned (uN vs)) w)(b:fn.results=(ts.map ResultVar.tmp).toArray:=by exact rfl)(a:ts.map (iB L)=vs.map some:=by kernel_rfl):X ⟨k,[]⟩ (bodyPost P fn R) .ret L w:=by
 refine oT (ts.map .tmp) vs b ?_ h
 clear b h
 induction ts generalizing vs with
 |nil=>cases vs with
  |nil=>rfl
  |cons v vs=>cases a
 |cons t ts c=>cases vs with
  |nil=>cases a
  |cons v vs=>
   rw[kJ,kJ,kL] at a
   exact ResAll.cons (ResAt.tmp a.1) (c vs a.2)
instance opTmp(k:Nat):OfNat Operand k:=⟨.tmp k⟩
theorem qUj{e:TypeId}{b:Nat}{c:Array Value}{f:Nat×Nat}(d t:Nat)(x:Operand)(o:Nat)(v:Value)(k:Piece.holds m w (.blk b (.cells c e f)))(h:N ((d,v)::L) w)
 (g:dK ops L i=some (some d,.load t x):=by kernel_rfl) (a:Nat.blt d n=true:=by exact rfl) (p:bV L x=some (.pointer (some ⟨b,o,none⟩)):=by kernel_rfl) (l:pY P t (c.toList.drop o)=some v:=by kernel_rfl):eL P n ops Q i N L w:=QT v g a p k l h
theorem rA{e:TypeId}{b:Nat}{c:Array Value}(t:Nat)(x y:Operand)(o:Nat)(v:Value)(c':Array Value)(d:St m (.blk b (.cells c e (0,0))::own) w)(h:∀w',St m (.blk b (.cells c' e (0,0))::own) w'->N L w')
 (f:dK ops L i=some (none,.store t x y):=by kernel_rfl) (g:bV L x=some (.pointer (some ⟨b,o,none⟩)):=by kernel_rfl) (k:bV L y=some v:=by kernel_rfl) (a:xN P t v o c.size=true:=by kernel_rfl)
 (hc':(c.toList.take o++v.cells.toList++c.toList.drop (o+v.cells.toList.length)).toArray=c':=by kernel_rfl):eL P n ops Q i N L w:=SS f g k d a hc' h
theorem iX{e:TypeId}{b:Nat}{c:Array Value}(t:Nat)(x y:Operand)(v:Value)(d:St m (.blk b (.cells c e (0,0))::own) w)(h:∀w',St m (.blk b (.cells v.cells e (0,0))::own) w'->N L w')
 (f:dK ops L i=some (none,.store t x y):=by kernel_rfl) (g:bV L x=some (.pointer (some ⟨b,0,none⟩)):=by kernel_rfl) (k:bV L y=some v:=by kernel_rfl) (a:xN P t v 0 c.size=true:=by kernel_rfl)
 (hc':(c.toList.take 0++v.cells.toList++c.toList.drop (0+v.cells.toList.length)).toArray=v.cells:=by kernel_rfl):eL P n ops Q i N L w:=SS f g k d a hc' h
theorem xQ(d e:Nat)(v:Value)(a:St m own w)(h:∀b w',St m (.blk b (.cells v.cells e (0,0))::own) w'->N ((d,.pointer (some ⟨b,0,none⟩))::L) w')
 (f:dK ops L i=some (some d,.alloc e):=by kernel_rfl) (c:Nat.blt d n=true:=by exact rfl) (g:US P e=some v:=by kernel_rfl):eL P n ops Q i N L w:=qAn v f c g a h
theorem qI(d e:Nat)(x:Operand)(v:Value)(a:St m own w)(h:∀b w',St m (.blk b (.cells v.cells e (0,0))::own) w'->N ((d,.pointer (some ⟨b,0,none⟩))::L) w')
 (f:dK ops L i=some (some d,.box e x):=by kernel_rfl) (c:Nat.blt d n=true:=by exact rfl) (g:bV L x=some v:=by kernel_rfl):eL P n ops Q i N L w:=YK v f c g a h
theorem xE{e:Exit}{L':bK}(h:X n Q e L' w)(a:L'.map (fun p=>iB L p.1)=L'.map fun p=>some p.2:=by kernel_rfl):X n Q e L w:=OP L' a h
theorem iA{m':Mem}{p:Prop}(st:St m' own w)(h:m.le m'):p\/Inv m w/\True:= .inr ⟨Inv.anti st.inv h,trivial⟩
theorem rJ{α β:Type}{c:Codec α}{a:Option Addr}{cap:Nat}{l k:List α}{v:Value}{f:List α->Option β}{r:β}(d t u e by_:Nat)(x y:Operand)(g:St m (.room a l.length cap e c.sz::own) w)(D:wJ P u e)(b:RepS c m a cap l)(s:DV P c m v k)(B:(eM by_ l k).bind f=some r)
  (h:∀z,f z=some r->∀a' cap' m' w',m.le m'->St m' (.room a' (List.length z) cap' e c.sz::own) w'->RepS c m' a' cap' z->N ((d,.slice a' (List.length z) cap')::L) w')
  (A:dK ops L i=some (some d,.call {callee:= .builtin .append,args:= #[x,y],argTypes:= #[t,u]}):=by kernel_rfl) (q:Nat.blt d n=true:=by exact rfl) (E:bV L x=some (.slice a l.length cap):=by kernel_rfl) (F:bV L y=some v:=by kernel_rfl)
  (hi:vY P t=some (e,c.sz,by_,c.sz):=by kernel_rfl):eL P n ops Q i N L w:=by
 obtain⟨z,o,p⟩:=aX B;exact qNe c A q E F g hi D b s o (h z p)
theorem cQ{α:Type}{b:Bool}{A B:Option α}{r:α}(t:Nat)(a:(if b then A else B)=some r)(e:b=true->A=some r->WO P n ops Q i ((t,.bool true)::L) w)(d:b=false->B=some r->WO P n ops Q i ((t,.bool false)::L) w)
  (c:iB L t=some (.bool b):=by kernel_rfl):WO P n ops Q i L w:=by
 cases b with
 |true=>exact qDt true c rfl (e rfl (by rw[if_pos rfl] at a;exact a))
 |false=>exact qDt false c rfl (d rfl (by rw[if_neg gK] at a;exact a))
theorem tA{m':Mem}{p x:Prop}(st:St m' own w)(h:m.le m')(k:x):((p\/Inv m w/\True)/\True)/\x:=⟨⟨iA st h,trivial⟩,k⟩
class QC(Q:Exit->Act->World->Prop):Prop where
 out:QP Q
instance qc1{K:Act->World->Prop}[h:QC Q]:QC (Exit.then K Q):=⟨cP h.out⟩
instance qc2{id:Nat}[h:QC Q]:QC (Exit.inBlock id Q):=⟨iN h.out⟩
instance qc3{fn:Func}{R:Ending->World->Prop}:QC (bodyPost P fn R):=⟨mJ⟩
instance qc4[h:QC Q]:QC (OE Q):=⟨h.out⟩
instance qc5{fn:Func}{R:Ending->World->Prop}:QC (IT P fn R):=⟨fun _ _ _ _ _ h=>h⟩
instance qc6{l:Nat}{R:Ending->World->Prop}:QC (roundPost P l R):=⟨fun _ _ _ _ _ h=>h⟩
instance qc7{l:Nat}{body:Code}{R:Ending->World->Prop}:QC (UI P l body R):=⟨fun _ _ _ _ _ h=>h⟩
instance qc8:QC (noP Q):=⟨fun _ _ _ _ _ h=>h⟩
variable [hq:QC Q] {ks:List (Nat×(World->Prop))} {k fuel:Nat} {S:World->Prop} {done:List Nat}
theorem qVl(i d:Nat)(v:Value)(a:(k,S)∈ks)(h:WA P n ops Q ks fuel (done++[i]) ((d,v)::L) w)(c:DO P ops L i=some (d,v):=by kernel_rfl)(b:Nat.blt d n=true:=by exact rfl)(e:nP ops ks k i done=true:=by kernel_rfl):WA P n ops Q ks (fuel+1) done L w:=
 qDw i d v c b e a hq.out h
theorem pK{e:Nat}{b:Nat}{c:Array Value}{f:Nat×Nat}(t':Nat)(x:Operand)(i d o:Nat)(v:Value)(a:(k,S)∈ks)(g:∀w,S w->Piece.holds m w (.blk b (.cells c e f)))(h:WA P n ops Q ks fuel (done++[i]) ((d,v)::L) w)
  (p:dK ops L i=some (some d,.load t' x):=by kernel_rfl) (l:Nat.blt d n=true:=by exact rfl) (q:nP ops ks k i done=true:=by kernel_rfl) (s:bV L x=some (.pointer (some ⟨b,o,none⟩)):=by kernel_rfl) (r:pY P t' (c.toList.drop o)=some v:=by kernel_rfl):WA P n ops Q ks (fuel+1) done L w:=
 YL i d v p l q a hq.out g s r h
theorem qTy{α:Type}{k':BA->Option α}{r:α}{a b:BA}(t t2:Nat)(x y:Operand)(i d:Nat)(c:(k,S)∈ks)(o:(dM a b).bind k'=some r)(h:∀s,k' s=some r->WA P n ops Q ks fuel (done++[i]) ((d,.string s)::L) w)
  (l:dK ops L i=some (some d,.binOp .add t x y t2):=by kernel_rfl) (g:Nat.blt d n=true:=by exact rfl) (p:nP ops ks k i done=true:=by kernel_rfl) (q:bV L x=some (.string a):=by kernel_rfl) (u:bV L y=some (.string b):=by kernel_rfl):WA P n ops Q ks (fuel+1) done L w:=by
 obtain⟨z,e,f⟩:=aX o;exact qVb i d l g p c hq.out q u e (h z f)
def OO(P:Program)(n:Fr)(ops:Array Oper)(ks:List (Nat×(World->Prop)))(k i:Nat)(done:List Nat)(L:bK):Option (Nat×Value):=
 bif nP ops ks k i done then
  (match DO P ops L i with
  |some q=>bif Nat.blt q.1 n then some q else none
  |none=>(match((ops[i]?).bind fun o=>(nO ops L o.guard).map fun b=>(o.dst,b)) with
   |some (some d,false)=>bif Nat.blt d n then some (d,undef) else none
   |_=>none))
 else none
def IU(P:Program)(n:Fr)(ops:Array Oper)(ks:List (Nat×(World->Prop)))(k:Nat):List Nat->List Nat->bK->Option bK
 |[],_,_=>some []
 |i::l,done,L=>match OO P n ops ks k i done L with
  |some q=>(match IU P n ops ks k l (done++[i]) (q::L) with
   |some r=>some (q::r)
   |none=>none)
  |none=>none
def VK(L:bK):bK->bK
 |[]=>L
 |q::r=>VK (q::L) r
theorem qVh{i:Nat}{q:Nat×Value}(c:(k,S)∈ks)(a:OO P n ops ks k i done L=some q)(h:WA P n ops Q ks fuel (done++[i]) (q::L) w):WA P n ops Q ks (fuel+1) done L w:=by
 unfold OO at a
 cases e:nP ops ks k i done with
 |false=>rw[e] at a;cases a
 |true=>
  rw[e] at a
  cases hp:DO P ops L i with
  |some z=>
   rw[hp] at a
   cases b:Nat.blt z.1 n with
   |false=>simp only[b,cond_true,cond_false] at a;cases a
   |true=>
    simp only[b,cond_true] at a
    cases a
    exact qDw i q.1 q.2 hp b e c hq.out h
  |none=>
   rw[hp] at a
   simp only[cond_true] at a
   split at a
   .rename_i d ho
    cases b:Nat.blt d n with
    |false=>rw[b] at a;cases a
    |true=>
     rw[b] at a
     cases a
     exact qTq i d ho b e c hq.out h
   cases a
theorem qEt(b:(k,S)∈ks):∀(l:List (Nat×Nat×Value)) (fuel:Nat) (done:List Nat) (L:bK),WA P n ops Q ks fuel (done++l.map (·.1)) (VK L (l.map (·.2))) w->IU P n ops ks k (l.map (·.1)) done L=some (l.map (·.2))->WA P n ops Q ks (fuel+l.length) done L w
 |[],_,done,_,h,_=>by rw[List.map_nil,gQ] at h;exact h
 |x::l,fuel,done,L,h,a=>by
  simp only[kJ,IU] at a
  cases c:OO P n ops ks k x.1 done L with
  |none=>rw[c] at a;cases a
  |some q=>
   rw[c] at a
   dsimp only at a
   cases d:IU P n ops ks k (l.map (·.1)) (done++[x.1]) (q::L) with
   |none=>rw[d] at a;cases a
   |some r=>
    rw[d] at a
    simp only[jG,kL] at a
    obtain⟨rfl,rfl⟩:=a
    refine qVh b c (qEt b l fuel (done++[x.1]) (x.2::L) ?_ d)
    rw[kM]
    exact h
theorem cE{ks':List (Nat×(World->Prop))}(m:Nat)(l:List (Nat×Nat×Value))(h:WA P n ops Q ((k,S)::ks') fuel (done++l.map (·.1)) (VK L (l.map (·.2))) w)
  (a:IU P n ops ((k,S)::ks') k (l.map (·.1)) done L=some (l.map (·.2)):=by kernel_rfl) (b:l.length=m:=by exact rfl):WA P n ops Q ((k,S)::ks') (fuel+m) done L w:=by
 subst b
 exact qEt (List.Mem.head _) l fuel done L h a
end
theorem qVa{m m':Mem}{own:List Piece}{w:World}{b:Nat}{o:Obj}(g:St m' own w)(a:m.le m')(c:Piece.blk b o∈own):Piece.holds m w (.blk b o):=Piece.holds_anti (g.2.1 _ c) a
theorem qTr{m m':Mem}{own:List Piece}{w:World}{a:Option Addr}{cs:Array Value}{e:TypeId}(g:St m' own w)(b:m.le m')(c:lI a cs e∈own):Piece.holds m w (lI a cs e):=qPk (g.2.1 _ c) b
end
end Go.Dc
section
abbrev Prod.d{α β γ:Type}(x:α×β×γ):γ:=x.2.2
abbrev Prod.e{α β γ δ:Type}(x:α×β×γ×δ):δ:=x.2.2.2
abbrev Prod.f{α β γ δ ε:Type}(x:α×β×γ×δ×ε):ε:=x.2.2.2.2
abbrev Prod.h{α β γ δ ε ζ:Type}(x:α×β×γ×δ×ε×ζ):ζ:=x.2.2.2.2.2
abbrev Prod.j{α β γ δ ε ζ η:Type}(x:α×β×γ×δ×ε×ζ×η):η:=x.2.2.2.2.2.2
abbrev Prod.k{α β γ δ ε ζ η θ:Type}(x:α×β×γ×δ×ε×ζ×η×θ):θ:=x.2.2.2.2.2.2.2
namespace Go.Dc
class Enc{α:Type}(c:Codec α) where
 enc:α->List Value
 ok:∀m x,c.rep m x (enc x)
instance encStr:Enc aH:=⟨fun x=>[.string x],fun _ _=>rfl⟩
instance encInt{k:IntKind}:Enc (aR k):=⟨fun x=>[.int k x],fun _ _=>rfl⟩
instance encBool:Enc cK:=⟨fun x=>[.bool x],fun _ _=>rfl⟩
instance encPair{α β:Type}{a:Codec α}{b:Codec β}[A:Enc a][B:Enc b]:Enc (pJ a b):=⟨fun x=>A.enc x.1++B.enc x.2,fun m x=>⟨_,_,rfl,A.ok m x.1,B.ok m x.2⟩⟩
def VO{α:Type}(c:Codec α)[E:Enc c]:List α->List Value
 |[]=>[]
 |x::l=>E.enc x++VO c l
theorem qBp{α:Type}{c:Codec α}[E:Enc c]{m:Mem}:∀l:List α,RepAll c m l (VO c l)
 |[]=>rfl
 |x::l=>⟨_,_,rfl,E.ok m x,qBp l⟩
section
variable {ρ:Option Nat} {P:Program} {n:Fr} {ops:Array Oper} {Q:Exit->Act->World->Prop} {i:Nat} {L:bK} {w:World} {m:Mem} {own:List Piece}
def qFu(P:Program)(ops:Array Oper)(L:bK)(i:Nat):Option (Nat×Nat×TypeId×List Value):=
 match dK ops L i with
 |some (some d,.buildSlice t len parts)=>(RI P t len (parts.map fun p=>(p.1,mQ L p.2)).toList).map fun z=>(d,len,z)
 |_=>none
theorem eH{α:Type}(d e len:Nat)(c:Codec α)[E:Enc c](xs:List α)(k:St m own w)
  (h:∀b m' w',m.le m'->St m' (.room (some ⟨b,0,none⟩) xs.length len e c.sz::own) w'->RepS c m' (some ⟨b,0,none⟩) len xs->WO P n ops Q (i+1) ((d,.slice (some ⟨b,0,none⟩) xs.length len)::L) w')
  (a:qFu P ops L i=some (d,len,e,VO c xs):=by kernel_rfl) (l:Nat.blt d n=true:=by exact rfl) (f:len=xs.length:=by exact rfl) (g:Nat.ble len maxLen=true:=by exact rfl) (hi:Nat.blt i ops.size=true:=by exact rfl):WO P n ops Q i L w:=by
 unfold qFu at a
 split at a
 .rename_i ha
  simp only[kA,Prod.mk.injEq] at a
  obtain⟨z,o,rfl,rfl,rfl⟩:=a
  exact qZ hi (oB c _ ha l (fun _=>oA o _) f g k (qBp xs) h)
 cases a
def OQ(P:Program)(ops:Array Oper)(L:bK)(i:Nat)(c:List Value):Option (Nat×Nat×Value):=
 match dK ops L i with
 |some (some d,.load t x)=>match bV L x with
  |some (.pointer (some ⟨b,o,none⟩))=>(pY P t (c.drop o)).map fun v=>(d,b,v)
  |_=>none
 |_=>none
theorem bD{e:TypeId}{b:Nat}{c:Array Value}{f:Nat×Nat}(d:Nat)(v:Value)(k:Piece.holds m w (.blk b (.cells c e f)))(h:WO P n ops Q (i+1) ((d,v)::L) w)
  (a:OQ P ops L i c.toList=some (d,b,v):=by kernel_rfl) (g:Nat.blt d n=true:=by exact rfl) (hi:Nat.blt i ops.size=true:=by exact rfl):WO P n ops Q i L w:=by
 unfold OQ at a
 split at a
 .rename_i ha
  split at a
  .rename_i hb
   simp only[kA,Prod.mk.injEq] at a
   obtain⟨z,l,rfl,rfl,rfl⟩:=a
   exact qZ hi (QT _ ha g hb k l h)
  cases a
 cases a
def OM(P:Program)(ops:Array Oper)(L:bK)(i:Nat)(c:List Value):Option (Nat×Nat×Nat×Value):=
 match dK ops L i with
 |some (some d,.load t x)=>match bV L x with
  |some (.pointer (some ⟨b,o,none⟩))=>(pY P t c).map fun v=>(d,b,o,v)
  |_=>none
 |_=>none
theorem cI{b o:Nat}{cs:List Value}(d:Nat)(v:Value)(c:St m own w)(f:MRow m b o cs)(h:WO P n ops Q (i+1) ((d,v)::L) w)
  (a:OM P ops L i cs=some (d,b,o,v):=by kernel_rfl) (e:Nat.blt d n=true:=by exact rfl) (hi:Nat.blt i ops.size=true:=by exact rfl):WO P n ops Q i L w:=by
 unfold OM at a
 split at a
 .rename_i ha
  split at a
  .rename_i hb
   simp only[kA,Prod.mk.injEq] at a
   obtain⟨z,g,rfl,rfl,rfl,rfl⟩:=a
   exact qZ hi (XI _ ha e hb c f g h)
  cases a
 cases a
def VP(P:Program)(ops:Array Oper)(L:bK)(i:Nat)(c:Array Value):Option (Nat×Array Value):=
 match dK ops L i with
 |some (none,.store t x y)=>match bV L x with
  |some (.pointer (some ⟨b,o,none⟩))=>match bV L y with
   |some v=>bif xN P t v o c.size then some (b,(c.toList.take o++v.cells.toList++c.toList.drop (o+v.cells.toList.length)).toArray) else none
   |none=>none
  |_=>none
 |_=>none
theorem iM{e:TypeId}{b:Nat}{c:Array Value}(c':Array Value)(d:St m (.blk b (.cells c e (0,0))::own) w)(h:∀w',St m (.blk b (.cells c' e (0,0))::own) w'->WO P n ops Q (i+1) L w')
  (a:VP P ops L i c=some (b,c'):=by kernel_rfl) (hi:Nat.blt i ops.size=true:=by exact rfl):WO P n ops Q i L w:=by
 unfold VP at a
 split at a
 .rename_i ha
  split at a
  .rename_i hb
   split at a
   .rename_i hv
    cases hk:xN P _ _ _ c.size with
    |true=>
     rw[hk,cond_true] at a
     simp only[jG,Prod.mk.injEq] at a
     obtain⟨rfl,f⟩:=a
     exact qZ hi (SS ha hb hv d hk f h)
    |false=>rw[hk,cond_false] at a;cases a
   cases a
  cases a
 cases a
theorem bF{e:TypeId}{b:Nat}{c:Array Value}(v:Value)(a:St m (.blk b (.cells c e (0,0))::own) w)(h:∀w',St m (.blk b (.cells v.cells e (0,0))::own) w'->WO P n ops Q (i+1) L w')
 (d:VP P ops L i c=some (b,v.cells):=by kernel_rfl) (hi:Nat.blt i ops.size=true:=by exact rfl):WO P n ops Q i L w:=iM v.cells a h d hi
def qFw(P:Program)(ops:Array Oper)(L:bK)(i:Nat):Option (Nat×Nat×Value):=
 match dK ops L i with
 |some (some d,.alloc e)=>(US P e).map fun v=>(d,e,v)
 |_=>none
theorem bX(d e:Nat)(v:Value)(c:St m own w)(h:∀b w',St m (.blk b (.cells v.cells e (0,0))::own) w'->WO P n ops Q (i+1) ((d,.pointer (some ⟨b,0,none⟩))::L) w')
  (a:qFw P ops L i=some (d,e,v):=by kernel_rfl) (f:Nat.blt d n=true:=by exact rfl) (hi:Nat.blt i ops.size=true:=by exact rfl):WO P n ops Q i L w:=by
 unfold qFw at a
 split at a
 .rename_i ha
  simp only[kA,Prod.mk.injEq] at a
  obtain⟨z,g,rfl,rfl,rfl⟩:=a
  exact qZ hi (qAn _ ha f g c h)
 cases a
def qGf(ops:Array Oper)(L:bK)(i:Nat):Option (Nat×Nat×Value):=
 match dK ops L i with
 |some (some d,.box e x)=>(bV L x).map fun v=>(d,e,v)
 |_=>none
theorem dY(d e:Nat)(v:Value)(c:St m own w)(h:∀b m' w',m.le m'->St m' own w'->MRow m' b 0 v.cells.toList->WO P n ops Q (i+1) ((d,.pointer (some ⟨b,0,none⟩))::L) w')
  (a:qGf ops L i=some (d,e,v):=by kernel_rfl) (f:Nat.blt d n=true:=by exact rfl) (hi:Nat.blt i ops.size=true:=by exact rfl):WO P n ops Q i L w:=by
 unfold qGf at a
 split at a
 .rename_i ha
  simp only[kA,Prod.mk.injEq] at a
  obtain⟨z,g,rfl,rfl,rfl⟩:=a
  exact qZ hi (qSp _ ha f g c h)
 cases a
def qFs(P:Program)(ops:Array Oper)(L:bK)(i:Nat):Option (Nat×BA×Int):=
 match dK ops L i with
 |some (some d,.index t x y)=>match bV L x with
  |some (.string s)=>match bV L y with
   |some (.int .i64 z)=>match P.underlying t with
    |some .string=>some (d,s,z)
    |_=>none
   |_=>none
  |_=>none
 |_=>none
theorem lL{α:Type}{k:UInt8->Option α}{r:α}{s:BA}{ix:Int}(d:Nat)(f:(iC s ix).bind k=some r)(h:∀z:UInt8,k z=some r->WO P n ops Q (i+1) ((d,.int .u8 (z.toNat:Int))::L) w)
  (a:qFs P ops L i=some (d,s,ix):=by kernel_rfl) (e:Nat.blt d n=true:=by exact rfl) (hi:Nat.blt i ops.size=true:=by exact rfl):WO P n ops Q i L w:=by
 obtain⟨z,b,c⟩:=aX f
 unfold qFs at a
 split at a
 .rename_i ha
  split at a
  .rename_i hb
   split at a
   .rename_i hc
    split at a
    .rename_i hu
     cases a
     exact qZ hi (qKp (k:= .i64) ha e hb hc hu b (h z c))
    cases a
   cases a
  cases a
 cases a
def qGb(ops:Array Oper)(L:bK)(i:Nat):Option (Nat×BA×BA):=
 match dK ops L i with
 |some (some d,.binOp .add _ x y _)=>match bV L x with
  |some (.string s)=>match bV L y with
   |some (.string z)=>some (d,s,z)
   |_=>none
  |_=>none
 |_=>none
theorem lF{α:Type}{k:BA->Option α}{r:α}{a b:BA}(d:Nat)(l:(dM a b).bind k=some r)(h:∀s,k s=some r->WO P n ops Q (i+1) ((d,.string s)::L) w)
  (c:qGb ops L i=some (d,a,b):=by kernel_rfl) (g:Nat.blt d n=true:=by exact rfl) (hi:Nat.blt i ops.size=true:=by exact rfl):WO P n ops Q i L w:=by
 obtain⟨z,e,f⟩:=aX l
 unfold qGb at c
 split at c
 .rename_i ha
  split at c
  .rename_i hb
   split at c
   .rename_i hc
    cases c
    exact qZ hi (qSq ha g hb hc e (h z f))
   cases c
  cases c
 cases c
def qFz(P:Program)(ops:Array Oper)(L:bK)(i:Nat):Option (Nat×Value×Int×Nat):=
 match dK ops L i with
 |some (some d,.indexAddr t x y)=>match bV L x with
  |some v=>match bV L y with
   |some (.int .i64 z)=>(qU P t).map fun q=>(d,v,z,q.2)
   |_=>none
  |_=>none
 |_=>none
theorem iH{α β:Type}{c:Codec α}{a:Option Addr}{cap:Nat}{l:List α}{ix:Int}{k:α->Option β}{r:β}(d:Nat)(g:RepS c m a cap l)(x:(bS l ix).bind k=some r)
  (h:∀z,k z=some r->∀b o cs,c.rep m z cs->MRow m b o cs->WO P n ops Q (i+1) ((d,.pointer (some ⟨b,o,none⟩))::L) w)
  (f:qFz P ops L i=some (d,.slice a l.length cap,ix,c.sz):=by kernel_rfl) (u:Nat.blt d n=true:=by exact rfl) (hi:Nat.blt i ops.size=true:=by exact rfl):WO P n ops Q i L w:=by
 obtain⟨z,q,t⟩:=aX x
 unfold qFz at f
 split at f
 .rename_i ha
  split at f
  .rename_i hb
   split at f
   .rename_i hc
    simp only[kA,Prod.mk.injEq] at f
    obtain⟨⟨e,s⟩,v,rfl,rfl,rfl,p⟩:=f
    simp only at p
    subst p
    exact qZ hi (qNz (k:= .i64) c ha u hb hc v g q (h z t))
   cases f
  cases f
 cases f
theorem mL{α β:Type}{c:Codec α}{a:Option Addr}{cap:Nat}{l k:List α}{v:Value}{f:List α->Option β}{r:β}(d t u e by_:Nat)(x y:Operand)(g:St m (.room a l.length cap e c.sz::own) w)(B:wJ P u e)(b:RepS c m a cap l)(p:DV P c m v k)(A:(eM by_ l k).bind f=some r)
 (h:∀z,f z=some r->∀a' cap' m' w',m.le m'->St m' (.room a' (List.length z) cap' e c.sz::own) w'->RepS c m' a' cap' z->WO P n ops Q (i+1) ((d,.slice a' (List.length z) cap')::L) w')
 (s:dK ops L i=some (some d,.call {callee:= .builtin .append,args:= #[x,y],argTypes:= #[t,u]}):=by kernel_rfl) (o:Nat.blt d n=true:=by exact rfl) (D:bV L x=some (.slice a l.length cap):=by kernel_rfl) (E:bV L y=some v:=by kernel_rfl)
 (hi:vY P t=some (e,c.sz,by_,c.sz):=by kernel_rfl) (q:Nat.blt i ops.size=true:=by exact rfl):WO P n ops Q i L w:=qZ q (rJ d t u e by_ x y g B b p A h s o D E hi)
theorem aL{α β:Type}{f:Nat}{args:Array Value}{x:Option β}{k:β->Option α}{r:α}{T:β->Ending->World->Prop}(d:Nat)(g:x.bind k=some r)(a:∀{y},x=some y->Calls P f args w (T y))
  (h:∀y,k y=some r->∀e w',T y e w'->GoOn (fun v=>WO P n ops Q (i+1) ((d,v)::L) w') e) (c:tR P ops L i=some (some d,f,args):=by kernel_rfl) (b:Nat.blt d n=true:=by exact rfl) (hi:Nat.blt i ops.size=true:=by exact rfl):WO P n ops Q i L w:=
 qUr d g (fun _=>a) h c b hi
theorem cW{α β:Type}{f:Nat}{args:Array Value}{x:Option β}{k:β->Option α}{r:α}{T:β->Ending->World->Prop}(d:Nat)(g:x.bind k=some r)(a:∀{y},x=some y->Calls P f args w (T y))
  (h:∀y,k y=some r->∀e w',T y e w'->GoOnF (fun v=>WO P n ops Q (i+1) ((d,v)::L) w') (fun ch=>X n Q (.panic ch) L w') e) (c:tR P ops L i=some (some d,f,args):=by kernel_rfl) (b:Nat.blt d n=true:=by exact rfl) (hi:Nat.blt i ops.size=true:=by exact rfl):WO P n ops Q i L w:=
 qSa d g (fun _=>a) h c b hi
theorem aI{id:Nat}{y:Code}(k:Nat)(new:bK)(h:W none P n y Q (new++L) w)(a:zK P n ops k 0 L (new.map (·.1))=some (new.map fun p=>some p.2):=by kernel_rfl)
 (b:wB L new (vF ops k 0)=true:=by kernel_rfl) (hi:ops.size=0+k:=by exact rfl):W none P n (.seq (.region id ops false) y) Q L w:=aB (aG k new h a b hi)
theorem aS{id:Nat}{y:Code}(k:Nat)(new:bK)(h:WO P n ops (Exit.then (fun a w=>y.wpIn (nM none) 0 P Q a w) Q) (0+k) (new++L) w)(b:zK P n ops k 0 L (new.map (·.1))=some (new.map fun p=>some p.2):=by kernel_rfl)
 (c:wB L new (vF ops k 0)=true:=by kernel_rfl):W none P n (.seq (.region id ops false) y) Q L w:=aB (aA k new h b c)
theorem qOx{σ β:Type}{f:σ->Option (σ⊕β)}{k:Nat}{s:σ}{b:β}(h:aK f (k+1) s=some b):∃c,f s=some c/\(∀s',.inl s'=c->aK f k s'=some b)/\(∀b',.inr b'=c->b'=b):=by
 obtain⟨c,a,d,g⟩:=qMi h
 exact⟨c,a,fun s' e=>d s' e.symm,fun b' e=>g b' e.symm⟩
theorem X_rd{k:Nat}{I:Nat->bK->World->Prop}(h:I k L w):X n (Exit.then (fun a' w'=>∃k' L',k'<k+1/\Fits n a' L'/\I k' L' w') Q) .normal L w:=qRj k (Nat.lt_succ_self k) h
theorem qVk{α β:Type}{x:Option α}{f:α->Option β}{b:β}{c:Code}(e:Exit)(k:x.bind f=some b)(I:α->bK->World->Prop)(d:∀o,f o=some b->∀L' w',I o L' w'->X n Q e L' w')
  (a:∀o,x=some o->(∀L' w',I o L' w'->X n Q e L' w')->W ρ P n c Q L w):W ρ P n c Q L w:=by
 obtain⟨o,g,h⟩:=aX k
 exact a o g (d o h)
theorem qTs{α β:Type}{x:Option α}{f:α->Option β}{b:β}(j:Nat)(g:x.bind f=some b)(I:α->bK->World->Prop)(a:∀o,f o=some b->∀L' w',I o L' w'->WO P n ops Q j L' w')
  (c:∀o,x=some o->(∀L' w',I o L' w'->WO P n ops Q j L' w')->WO P n ops Q i L w):WO P n ops Q i L w:=by
 obtain⟨o,d,e⟩:=aX g
 exact c o d (a o e)
class RetQ(P:outParam Program)(Q:Exit->Act->World->Prop)(fn:outParam Func)(R:outParam (Ending->World->Prop)):Prop where
 out:∀a w,bodyPost P fn R .ret a w->Q .ret a w
instance rq1{fn:Func}{R:Ending->World->Prop}:RetQ P (bodyPost P fn R) fn R:=⟨fun _ _ h=>h⟩
instance rq2{fn:Func}{R:Ending->World->Prop}{K:Act->World->Prop}[h:RetQ P Q fn R]:RetQ P (Exit.then K Q) fn R:=⟨h.out⟩
instance rq3{fn:Func}{R:Ending->World->Prop}{id:Nat}[h:RetQ P Q fn R]:RetQ P (Exit.inBlock id Q) fn R:=⟨h.out⟩
theorem eI{k:Nat}{fn:Func}{R:Ending->World->Prop}[hq:RetQ P Q fn R]{b e:Nat}{c:Array Value}{f:Nat×Nat}(s t:Nat)(ts:List Nat)(vs:List Value)(n:Piece.holds m w (.blk b (.cells c e f)))(h:R (.returned (uN (.agg c::vs))) w)
  (l:fn.results=(ResultVar.cell s t::ts.map ResultVar.tmp).toArray:=by exact rfl) (p:iB L s=some (.pointer (some ⟨b,0,none⟩)):=by kernel_rfl) (q:pY P t c.toList=some (.agg c):=by kernel_rfl) (d:ts.map (iB L)=vs.map some:=by kernel_rfl):X ⟨k,[]⟩ Q .ret L w:=by
 refine fun a g=>hq.out a w (oT (ResultVar.cell s t::ts.map .tmp) (.agg c::vs) l (ResAll.cons (ResAt.blk (o:=0) p n (by simpa using q)) ?_) h a g)
 clear l h p q n g hq
 induction ts generalizing vs with
 |nil=>cases vs with
  |nil=>rfl
  |cons v vs=>cases d
 |cons t ts r=>cases vs with
  |nil=>cases d
  |cons v vs=>
   rw[kJ,kJ,kL] at d
   exact ResAll.cons (ResAt.tmp d.1) (r vs d.2)
end
end Go.Dc
end
namespace Go.Dc
section
section
variable {ρ:Option Nat} {P:Program} {n:Fr} {ops:Array Oper} {Q:Exit->Act->World->Prop} {i:Nat} {L:bK} {w:World} {m:Mem} {own:List Piece}
theorem bP{f:FuncId}{fn:Func}{c:Code}{args:Array Value}{R:Ending->World->Prop}{k:Nat}(_g:St m own w)(hf:P.funcs[f]? =some fn)(hb:fn.body=some c)(hn:fn.ntmps=k)(h:m.le m->W none P ⟨k,[]⟩ c (bodyPost P fn R) (zN args.toList 0) w)
 (hsz:Nat.ble args.size k=true:=by exact rfl):Calls P f args w R:=nT hf hb hn (h m.le_refl) hsz
theorem dN{σ β:Type}{f:σ->Option (σ⊕β)}{k:Nat}{s:σ}{b:β}(h:aK f k s=some b):∃k' c,k=k'+1/\f s=some c/\(∀s',.inl s'=c->aK f k' s'=some b)/\(∀b',.inr b'=c->b'=b):=by
 cases k with
 |zero=>exact qMp h
 |succ k=>
  obtain⟨c,h1,h2,h3⟩:=qOx h
  exact⟨k,c,rfl,h1,h2,h3⟩
theorem dJ{c:Code}{L':bK}(I:Nat->bK->World->Prop)(k:Nat)(h0:I k L' w)
 (round:∀k L w,I k L w->W ρ P n c (Exit.then (fun a' w'=>∃k' L',k'<k/\Fits n a' L'/\I k' L' w') Q) L w) (hs:L'.map (fun p=>iB L p.1)=L'.map fun p=>some p.2:=by kernel_rfl):W ρ P n (.loop c) Q L w:=qVd L' hs (qUf I k h0 round)
theorem cY{k:Nat}{I:Nat->bK->World->Prop}{L':bK}(h:I k L' w)(hs:L'.map (fun p=>iB L p.1)=L'.map fun p=>some p.2:=by kernel_rfl):X n (Exit.then (fun a' w'=>∃k' L',k'<k+1/\Fits n a' L'/\I k' L' w') Q) .normal L w:=OP L' hs (X_rd h)
theorem aV(h:X n Q .normal L w)(hi:ops.size=i:=by exact rfl):WO P n ops Q i L w:=qEu hi h
theorem bU(h:eL P n ops Q i (fun L' w'=>WO P n ops Q (i+1) L' w') L w)(hi:Nat.blt i ops.size=true:=by exact rfl):WO P n ops Q i L w:=qZ hi h
theorem bJ{L':bK}(h:WO P n ops Q i L' w)(hs:L'.map (fun p=>iB L p.1)=L'.map fun p=>some p.2:=by kernel_rfl):WO P n ops Q i L w:=qEl L' hs h
theorem cJ{α β:Type}{x:Option α}{f:α->Option β}{b:β}{c:Code}(e:Exit)(hr:x.bind f=some b)(I:α->bK->World->Prop)(hend:∀o,f o=some b->∀L' w',I o L' w'->X n Q e L' w')
  (hbody:∀o,x=some o->(∀{a:α} {L':bK} {w':World},some a=some o->I a L' w'->X n Q e L' w')->W ρ P n c Q L w):W ρ P n c Q L w:=
 qVk e hr I hend fun o h K=>hbody o h fun h' k=>K _ _ (sI h'▸k)
theorem eV{α β:Type}{x:Option α}{f:α->Option β}{b:β}(j:Nat)(hr:x.bind f=some b)(I:α->bK->World->Prop)(hend:∀o,f o=some b->∀L' w',I o L' w'->WO P n ops Q j L' w')
  (hreg:∀o,x=some o->(∀{a:α} {L':bK} {w':World},some a=some o->I a L' w'->WO P n ops Q j L' w')->WO P n ops Q i L w):WO P n ops Q i L w:=
 qTs j hr I hend fun o h K=>hreg o h fun h' k=>K _ _ (sI h'▸k)
variable [hq:QC Q] {ks':List (Nat×(World->Prop))} {k fuel:Nat} {S:World->Prop} {done:List Nat}
theorem bL(i d:Nat)(v:Value)(h:WA P n ops Q ((k,S)::ks') fuel (done++[i]) ((d,v)::L) w)(ho:DO P ops L i=some (d,v):=by kernel_rfl)(hd:Nat.blt d n=true:=by exact rfl)(hs:nP ops ((k,S)::ks') k i done=true:=by kernel_rfl):WA P n ops Q ((k,S)::ks') (fuel+1) done L w:=
 qVl i d v (.head _) h ho hd hs
theorem lZ{α:Type}{k':BA->Option α}{r:α}{a b:BA}(t t2:Nat)(x y:Operand)(i d:Nat)(hr:(dM a b).bind k'=some r)(h:∀s,k' s=some r->WA P n ops Q ((k,S)::ks') fuel (done++[i]) ((d,.string s)::L) w)
  (ho:dK ops L i=some (some d,.binOp .add t x y t2):=by kernel_rfl) (hd:Nat.blt d n=true:=by exact rfl) (hs:nP ops ((k,S)::ks') k i done=true:=by kernel_rfl) (hx:bV L x=some (.string a):=by kernel_rfl) (hy:bV L y=some (.string b):=by kernel_rfl):WA P n ops Q ((k,S)::ks') (fuel+1) done L w:=
 qTy t t2 x y i d (.head _) hr h ho hd hs hx hy
theorem cV{e:Nat}{b:Nat}{c:Array Value}{f:Nat×Nat}(i d:Nat)(v:Value)(hI:∀w,S w->Piece.holds m w (.blk b (.cells c e f)))(h:WA P n ops Q ((k,S)::ks') fuel (done++[i]) ((d,v)::L) w)
  (ho:OQ P ops L i c.toList=some (d,b,v):=by kernel_rfl) (hd:Nat.blt d n=true:=by exact rfl) (hs:nP ops ((k,S)::ks') k i done=true:=by kernel_rfl):WA P n ops Q ((k,S)::ks') (fuel+1) done L w:=by
 unfold OQ at ho
 split at ho
 .rename_i ha
  split at ho
  .rename_i hb
   simp only[kA,Prod.mk.injEq] at ho
   obtain⟨z,hz,rfl,rfl,rfl⟩:=ho
   exact YL i _ _ ha hd hs (.head _) hq.out hI hb hz h
  cases ho
 cases ho
theorem eE{b o:Nat}{cs:List Value}(i d:Nat)(v:Value)(hr:MRow m b o cs)(h:WA P n ops Q ((k,fun w=>Inv m w/\S w)::ks') fuel (done++[i]) ((d,v)::L) w)
  (ho:OM P ops L i cs=some (d,b,o,v):=by kernel_rfl) (hd:Nat.blt d n=true:=by exact rfl) (hs:nP ops ((k,fun w=>Inv m w/\S w)::ks') k i done=true:=by kernel_rfl):WA P n ops Q ((k,fun w=>Inv m w/\S w)::ks') (fuel+1) done L w:=by
 unfold OM at ho
 split at ho
 .rename_i ha
  split at ho
  .rename_i hb
   simp only[kA,Prod.mk.injEq] at ho
   obtain⟨z,hz,rfl,rfl,rfl,rfl⟩:=ho
   exact qLw i _ _ ha hd hs (.head _) hq.out (fun _ h=>h.1) hb hr hz h
  cases ho
 cases ho
end
theorem cZ{A B C:World->Prop}(w:World)(h:A w/\B w/\C w):B w:=h.2.1
theorem pO{A B C D:World->Prop}(w:World)(h:A w/\B w/\C w/\D w):C w:=h.2.2.1
theorem zW{A B C D E:World->Prop}(w:World)(h:A w/\B w/\C w/\D w/\E w):D w:=h.2.2.2.1
theorem RepS.o{α:Type}{c:Codec α}{m m':Mem}{a:Option Addr}{cap:Nat}{l:List α}(h:RepS c m a cap l)(hle:m.le m'):RepS c m' a cap l:=h.mono hle
theorem MRow.o{m m':Mem}{b o:Nat}{cs:List Value}(h:MRow m b o cs)(hle:m.le m'):MRow m' b o cs:=h.mono hle
theorem MapQ.o{κ ν:Type}{ek:κ->Value}{c:Codec ν}{agg:Bool}{m m':Mem}{q:Option Nat}{es:Array MapEntry}{ck:Nat}{o:Option (List (κ×ν))}(h:MapQ ek c agg m q es ck o)(hle:m.le m'):MapQ ek c agg m' q es ck o:=h.mono hle
theorem ItR.o{κ ν:Type}{ek:κ->Value}{c:Codec ν}{agg:Bool}{m m':Mem}{es:Array MapEntry}{seen:Array Nat}{rem:List (κ×ν)}(h:ItR ek c agg m es seen rem)(hle:m.le m'):ItR ek c agg m' es seen rem:=h.mono hle
theorem aT{m m':Mem}{own:List Piece}{w:World}{p:Prop}(st:St m' own w)(hle:m.le m')(h:Inv m w->(∀{b:Nat} {o:Obj},List.Mem (Piece.blk b o) own->Piece.holds m w (.blk b o))->(∀{a:Option Addr} {cs:Array Value} {e:TypeId},List.Mem (lI a cs e) own->Piece.holds m w (lI a cs e))->p:=by
 intro hI hB hO
 repeat' first
  |with_reducible exact hI
  |with_reducible exact trivial
  |with_reducible refine And.intro ?_ ?_
  |with_reducible (refine hB ?_;(repeat' first|exact List.Mem.head _|apply List.Mem.tail);done)
  |with_reducible (refine hO ?_;(repeat' first|exact List.Mem.head _|apply List.Mem.tail);done)
  |(refine hB ?_;(repeat' first|exact List.Mem.head _|apply List.Mem.tail);done)
  |(refine hO ?_;(repeat' first|exact List.Mem.head _|apply List.Mem.tail);done)):p:=h (Inv.anti st.inv hle) (fun hm=>qVa st hle hm) (fun hm=>qTr st hle hm)
theorem bO{A S:Prop}(h:S):(A\/S)/\True:=⟨.inr h,trivial⟩
theorem pQ{A B S T:Prop}(h:S)(b:B:=by kernel_rfl):(A\/S)/\(B\/T)/\True:=⟨.inr h,.inl b,trivial⟩
theorem iE{A B S T:Prop}(h:S)(k:T):(A\/S)/\(B\/T)/\True:=⟨.inr h,.inr k,trivial⟩
abbrev cR(s:BA):Value:= .string s
abbrev cM(n:Int):Value:= .int .i64 n
abbrev eP(m m':Mem)(e:Ending)(v:Value)(X:List Piece)(w:World):Prop:=e= .returned v/\m.le m'/\St m' X w
abbrev bW(m m':Mem)(e:Ending)(v:Value)(X:List Piece)(w:World)(R:Prop):Prop:=e= .returned v/\m.le m'/\St m' X w/\R
abbrev pnW(t:Nat)(m m':Mem)(e:Ending)(v:Int)(X:List Piece)(w:World):Prop:=e= .panicked [{v:= .iface t (.agg #[.int .i64 v]),recovered:=false}]/\m.le m'/\St m' X w
abbrev nF(t:Nat)(m m':Mem)(e:Ending)(v:Int)(X:List Piece)(w:World)(R:Prop):Prop:=e= .panicked [{v:= .iface t (.agg #[.int .i64 v]),recovered:=false}]/\m.le m'/\St m' X w/\R
end
end Go.Dc
namespace Go.Proofs.YtleaknfdlaokiaaGreatDoor
section
open Go Go.Dc
abbrev T7:=BA
abbrev T8:=List T7
abbrev T9:=Option T8
abbrev Ta:=Option Int
abbrev Tb:=List Int
abbrev Tc:=Tb×Int
abbrev Td:=Tc×Int
abbrev Te:=Tc×T7
abbrev Tf:=Option Te
abbrev Tg:=Option (Int⊕Unit⊕Bool)
abbrev Th:=Option Bool
abbrev Ti:=Option T7
abbrev Tj:=T7×Int×Tc
abbrev Tk:=T7×Tc
abbrev Tl:=T7×T8×Int×Tc
abbrev Tm:=T7×Int
abbrev Tn:=T7×T7
abbrev To:=List Tn
abbrev Tp:=Int×To
abbrev Tq:=Bool×Tp
abbrev Tr:=Bool×To
abbrev Ts:=Option To
abbrev Tt:=List UInt8×Int×Tc
abbrev Tu:=To×Tc
abbrev Tv:=Int×Tu
abbrev Tw:=Tc×To
abbrev Tx:=Int⊕Unit⊕Tw
abbrev Ty:=List Tm
abbrev Tz:=Ty×Tc
abbrev JR:=Tb×Tp
abbrev T11:=Tc×To×Ty×Int
abbrev eT:=Int×Int
abbrev yE:=Int×eT
abbrev EX:=Option (Int⊕Unit⊕Int)
abbrev EN:=To×Int
abbrev EO:=T7×Bool
abbrev oG:=Int×T7×eT
abbrev EQ:=oG×eT
abbrev nV:=List oG
abbrev EU:=nV×Int
abbrev EV:=nV×eT
abbrev eC:=Int×Int×Int×T7×Tb
abbrev oF:=List eC
abbrev dT:=nV×Int×Int×Int×T8×oF×Tb
abbrev T1f:=dT×oG
abbrev JQ:=dT×Bool
abbrev AM:=Option (Bool×dT)
abbrev qP:=Option dT
abbrev AK:=dT×T7
abbrev JT:=Int×T7×T8×oF
abbrev eU:=List JT
abbrev pR:=T7×T8×eU
abbrev oZ:=dT×Int
abbrev lR:=Option oZ
abbrev KB:=Tb×dT
abbrev rV:=Int×dT
abbrev T1r:=rV⊕rV
abbrev T1s:=rV⊕T1r
abbrev tB:=nV×Int×Int×Int×T8×oF×Tb×T8
abbrev T1u:=dT×JT
abbrev T1v:=nV×Int×Int×Int×T8×oF×Tc
abbrev KD:=nV×Int×Int×Int×T8×oF×Tb×eU
abbrev JH:=pR×eT
abbrev JV:=List pR
abbrev rW:=T8×JV
abbrev AE:=T7×T7×eT
abbrev AJ:=Int×AE
abbrev iK:=T7×T7×oG
abbrev rU:=List iK
abbrev AH:=rU×Int
abbrev JJ:=T7×Int×T8
abbrev AN:=Int×T7
abbrev yD:=List eT
abbrev nX:=Option yD
abbrev sP:=List AN
abbrev dL:=Option Nat
abbrev cF:=nV×Int×T8×oF
abbrev wR:=cF×oG
abbrev T2d:=eT⊕cF
abbrev T2e:=cF⊕T2d
abbrev T2f:=eT⊕wR
abbrev ER:=Unit⊕T2f
abbrev vE:=T8×cF
abbrev T2i:=eT⊕cF×T8
abbrev T2j:=Unit⊕vE⊕vE⊕T2i
abbrev pA:=cF×Int
abbrev tZ:=eT⊕pA
abbrev lO:=Option tZ
abbrev yH:=Unit⊕tZ
abbrev T2o:=cF×Tb
abbrev T2p:=eT⊕T2o
abbrev yG:=Option T2p
abbrev AF:=Tb×cF
abbrev T2s:=Int×Int×T7×AF⊕tZ
abbrev T2t:=Unit⊕T2s
abbrev T2u:=nV×Int×T8×oF×oG
abbrev EP:=eT⊕cF×JT
abbrev EY:=Unit⊕EP
abbrev JF:=nV×Int×T8×oF×T8
abbrev T2y:=eT⊕cF×pR
abbrev JY:=JF⊕JF⊕T2y
abbrev JN:=nV×Int×T8×oF×eU
abbrev oN:=Int×Tn
abbrev uC:=Option (List (oN×iK))
abbrev JW:=T7×pR
abbrev ES:=T8×Option (List JW)×uC
abbrev sN:=To×Bool×Option (List JW)×T8×uC
abbrev tF:=Option (List (oN×Bool))
abbrev cS:=sN×Ty×Int×tF×Int×Int×Bool×Option (List (Int×dL))
abbrev dS:=pR×JT×Tb
abbrev wS:=tF×Int×Int×Bool
abbrev mV:=Int×wS
abbrev mW:=wS×Int
abbrev uA:=mV⊕mW
abbrev eF:=Option uA
abbrev mT:=List oN
abbrev JO:=T7×T7×Int×T7×Int×Int×mT
abbrev T3g:=iK×mT×Int
abbrev T3h:=Int×Int×Bool×tF
abbrev T3i:=Tb×Int×T3h
abbrev uD:=yE×Bool×mT×Int
abbrev T3k:=wS×uD
abbrev C1:=pJ aH aH
abbrev C2:=aR .i64
abbrev C3:=pJ aH C2
abbrev C4:=pJ C2 (pJ aH (pJ C2 C2))
abbrev C5:=pJ C2 (pJ C2 (pJ C2 (pJ aH (yF C2))))
abbrev C6:=pJ C2 (pJ aH (pJ (yF aH) (yF C5)))
abbrev C7:=pJ aH (pJ (yF aH) (yF C6))
abbrev C8:=pJ aH (pJ aH C4)
abbrev C9:=pJ C2 C1
abbrev vS{α:Type}(a:Option Addr)(l:List α)(c:Nat):Value:= .slice a (List.length l) c
abbrev vP(b o:Nat):Value:= .pointer (some ⟨b,o,none⟩)
abbrev vI(x:Int):Value:= .int .i64 x
abbrev vT(s:BA):Value:= .string s
abbrev vB(b:Bool):Value:= .bool b
abbrev eB:BA:=⟨#[]⟩
abbrev aP(b:Nat):Option Addr:=some ⟨b,0,none⟩
abbrev kB(b:Nat)(c:Array Value)(e:Nat):Piece:= .blk b (.cells c e (0,0))
abbrev kR{α:Type}(a:Option Addr)(l:List α)(c e s:Nat):Piece:= .room a (List.length l) c e s
abbrev V1{α0:Type}(p:List α0×Int)(a0:Option Addr)(c0:Nat):Array Value:= #[vS a0 p.1 c0,vI p.2]
abbrev V2(p:BA×BA):Array Value:= #[vT p.1,vT p.2]
abbrev V3(x0:BA)(x1:BA):Array Value:= #[vT x0,vT x1]
abbrev V4(p:Int×BA×Int×Int):Array Value:= #[vI p.1,vT p.2.1,vI p.2.2.1,vI p.2.2.2]
abbrev V5(x0:Int)(x1:BA)(x2:Int)(x3:Int):Array Value:= #[vI x0,vT x1,vI x2,vI x3]
abbrev V6{α0:Type}{α4:Type}{α5:Type}{α6:Type}(p:List α0×Int×Int×Int×List α4×List α5×List α6)(a0:Option Addr)(c0:Nat)(a4:Option Addr)(c4:Nat)(a5:Option Addr)(c5:Nat)(a6:Option Addr)(c6:Nat):Array Value:= #[vS a0 p.1 c0,vI p.2.1,vI p.2.2.1,vI p.2.2.2.1,vS a4 p.2.2.2.2.1 c4,vS a5 p.2.2.2.2.2.1 c5,vS a6 p.2.2.2.2.2.2 c6]
abbrev V7{α0:Type}{α4:Type}{α5:Type}{α6:Type}(a0:Option Addr)(l0:List α0)(c0:Nat)(x1:Int)(x2:Int)(x3:Int)(a4:Option Addr)(l4:List α4)(c4:Nat)(a5:Option Addr)(l5:List α5)(c5:Nat)(a6:Option Addr)(l6:List α6)(c6:Nat):Array Value:= #[vS a0 l0 c0,vI x1,vI x2,vI x3,vS a4 l4 c4,vS a5 l5 c5,vS a6 l6 c6]
abbrev V8{α1:Type}{α2:Type}(p:BA×List α1×List α2)(a1:Option Addr)(c1:Nat)(a2:Option Addr)(c2:Nat):Array Value:= #[vT p.1,vS a1 p.2.1 c1,vS a2 p.2.2 c2]
abbrev V9{α2:Type}{α3:Type}(p:Int×BA×List α2×List α3)(a2:Option Addr)(c2:Nat)(a3:Option Addr)(c3:Nat):Array Value:= #[vI p.1,vT p.2.1,vS a2 p.2.2.1 c2,vS a3 p.2.2.2 c3]
abbrev Va{α4:Type}(p:Int×Int×Int×BA×List α4)(a4:Option Addr)(c4:Nat):Array Value:= #[vI p.1,vI p.2.1,vI p.2.2.1,vT p.2.2.2.1,vS a4 p.2.2.2.2 c4]
abbrev Vb{α4:Type}(p:Int×Int×Int×BA×List α4)(a4:Option Addr)(c4:Nat):List Value:=[vI p.1,vI p.2.1,vI p.2.2.1,vT p.2.2.2.1,vS a4 p.2.2.2.2 c4]
abbrev Vc{α1:Type}{α2:Type}(p:BA×List α1×List α2)(a1:Option Addr)(c1:Nat)(a2:Option Addr)(c2:Nat):List Value:=[vT p.1,vS a1 p.2.1 c1,vS a2 p.2.2 c2]
abbrev Vd{α0:Type}{α1:Type}(p:List α0×List α1)(a0:Option Addr)(c0:Nat)(a1:Option Addr)(c1:Nat):Array Value:= #[vS a0 p.1 c0,vS a1 p.2 c1]
abbrev Ve(p:BA×BA×Int×BA×Int×Int):Array Value:= #[vT p.1,vT p.2.1,vI p.2.2.1,vT p.2.2.2.1,vI p.2.2.2.2.1,vI p.2.2.2.2.2]
abbrev Vf(x0:BA)(x1:BA)(x2:Int)(x3:BA)(x4:Int)(x5:Int):Array Value:= #[vT x0,vT x1,vI x2,vT x3,vI x4,vI x5]
abbrev Vg(p:BA×BA×Int×BA×Int×Int):List Value:=[vT p.1,vT p.2.1,vI p.2.2.1,vT p.2.2.2.1,vI p.2.2.2.2.1,vI p.2.2.2.2.2]
abbrev Vh{α0:Type}{α2:Type}{α3:Type}(p:List α0×Int×List α2×List α3)(a0:Option Addr)(c0:Nat)(a2:Option Addr)(c2:Nat)(a3:Option Addr)(c3:Nat):Array Value:= #[vS a0 p.1 c0,vI p.2.1,vS a2 p.2.2.1 c2,vS a3 p.2.2.2 c3]
abbrev Vi(p:Int×Int):Array Value:= #[vI p.1,vI p.2]
abbrev Vj(p:Int×BA×BA):Array Value:= #[vI p.1,vT p.2.1,vT p.2.2]
abbrev Vk{α1:Type}{α2:Type}{α5:Type}{α6:Type}{α7:Type}(x0:BA)(a1:Option Addr)(l1:List α1)(c1:Nat)(a2:Option Addr)(l2:List α2)(c2:Nat)(x3:Int)(x4:BA)(a5:Option Addr)(l5:List α5)(c5:Nat)(a6:Option Addr)(l6:List α6)(c6:Nat)(a7:Option Addr)(l7:List α7)(c7:Nat):Array Value:= #[vT x0,vS a1 l1 c1,vS a2 l2 c2,vI x3,vT x4,vS a5 l5 c5,vS a6 l6 c6,vS a7 l7 c7]
abbrev Vl(p:Int×Int×Int):Array Value:= #[vI p.1,vI p.2.1,vI p.2.2]
abbrev Vm(x0:Int)(x1:Int)(x2:Int):Array Value:= #[vI x0,vI x1,vI x2]
abbrev Vn(p:Int×BA×BA):List Value:=[vI p.1,vT p.2.1,vT p.2.2]
abbrev Vo{α4:Type}(x0:Int)(x1:Int)(x2:Int)(x3:Bool)(a4:Option Addr)(l4:List α4)(c4:Nat)(x5:Int):Array Value:= #[vI x0,vI x1,vI x2,vB x3,vS a4 l4 c4,vI x5]
abbrev ba:BA:=⟨#[97,46,115,114,99]⟩
abbrev bb:BA:=⟨#[98,46,115,114,99]⟩
abbrev bc:BA:=⟨#[100,47,99,46,115,114,99]⟩
abbrev bd:BA:=⟨#[120,46,115,114,99]⟩
abbrev be:BA:=⟨#[112]⟩
abbrev bf:BA:=⟨#[116]⟩
abbrev bg:BA:=⟨#[97,46,100,97,116]⟩
abbrev bh:BA:=⟨#[100,47,98,46,100,97,116]⟩
abbrev bi:BA:=⟨#[99]⟩
abbrev bj:BA:=⟨#[110]⟩
abbrev bk:BA:=⟨#[109]⟩
abbrev bl:BA:=⟨#[48,49,50,51,52,53,54,55,56,57]⟩
abbrev bm:BA:=⟨#[34,41]⟩
abbrev bn:BA:=⟨#[43]⟩
abbrev bo:BA:=⟨#[45]⟩
abbrev bp:BA:=⟨#[42]⟩
abbrev bq:BA:=⟨#[47]⟩
abbrev br:BA:=⟨#[37]⟩
abbrev bs:BA:=⟨#[60]⟩
abbrev bt:BA:=⟨#[61,61]⟩
abbrev bu:BA:=⟨#[102,117,110,99]⟩
abbrev bv:BA:=⟨#[34]⟩
abbrev bw:BA:=⟨#[112,97,99,107,97,103,101]⟩
abbrev bx:BA:=⟨#[105,109,112,111,114,116]⟩
abbrev bz:BA:=⟨#[116,101,115,116]⟩
abbrev b17:BA:=⟨#[103,101,110]⟩
abbrev b18:BA:=⟨#[105,102]⟩
abbrev b19:BA:=⟨#[116,104,101,110]⟩
abbrev b1a:BA:=⟨#[101,108,115,101]⟩
abbrev b1b:BA:=⟨#[114,101,97,100]⟩
abbrev b1c:BA:=⟨#[115,105,122,101]⟩
abbrev b1d:BA:=⟨#[104,97,115]⟩
abbrev b1e:BA:=⟨#[101,110,118]⟩
abbrev b1f:BA:=⟨#[102,108,105,112]⟩
abbrev JZ:BA:=⟨#[97,98,99,100,101,102,103,104,105,106,107,108,109,110,111,112,113,114,115,116,117,118,119,120,121,122]⟩
abbrev JL:BA:=⟨#[95]⟩
abbrev JM:BA:=⟨#[46]⟩
abbrev KA:BA:=⟨#[9,10,13,32]⟩
abbrev JU:BA:=⟨#[35]⟩
abbrev KC:BA:=⟨#[59,44,40,41,43,45,42,47,37,60,61]⟩
abbrev wO:BA:=⟨#[112,97,99,107,97,103,101,32,112,59,32,102,117,110,99,32,102,40,120,41,32,61,32,120,32,42,32,120,59,32,116,101,115,116,32,116,32,61,32,102,40,50,41,32,61,61,32,52,59]⟩
abbrev P1{X1:Type}{X2:Type}{X3:Type}(m:Mem)(a0:Option Addr)(c0:Nat)(a1:Option Addr)(c1:Nat)(a2:Option Addr)(c2:Nat)(a3:Option Addr)(c3:Nat)(p:(List ((Int)×((BA)×((Int)×(Int)))))×((X3)×((X2)×((X1)×((List (BA))×((List ((Int)×((Int)×((Int)×((BA)×(List (Int)))))))×(List (Int)))))))):Prop:=RepS C4 m a0 c0 p.1/\RepS aH m a1 c1 p.2.2.2.2.1/\RepS C5 m a2 c2 p.2.2.2.2.2.1/\RepS (aR .i64) m a3 c3 p.2.2.2.2.2.2
abbrev P2{X1:Type}{X2:Type}{X3:Type}{X4:Type}(m:Mem)(a0:Option Addr)(c0:Nat)(a1:Option Addr)(c1:Nat)(a2:Option Addr)(c2:Nat)(a3:Option Addr)(c3:Nat)(p:(List ((Int)×((BA)×((Int)×(Int)))))×((X4)×((X3)×((X2)×((List (BA))×((List ((Int)×((Int)×((Int)×((BA)×(List (Int)))))))×((List (Int))×(X1)))))))):Prop:=RepS C4 m a0 c0 p.1/\RepS aH m a1 c1 p.2.2.2.2.1/\RepS C5 m a2 c2 p.2.2.2.2.2.1/\RepS (aR .i64) m a3 c3 p.2.2.2.2.2.2.1
abbrev P3{X1:Type}{X2:Type}{X3:Type}(m:Mem)(a0:Option Addr)(c0:Nat)(a1:Option Addr)(c1:Nat)(a2:Option Addr)(c2:Nat)(a3:Option Addr)(c3:Nat)(a4:Option Addr)(c4:Nat)(p:(List ((Int)×((BA)×((Int)×(Int)))))×((X3)×((X2)×((X1)×((List (BA))×((List ((Int)×((Int)×((Int)×((BA)×(List (Int)))))))×((List (Int))×(List (BA))))))))):Prop:=RepS C4 m a0 c0 p.1/\RepS aH m a1 c1 p.2.2.2.2.1/\RepS C5 m a2 c2 p.2.2.2.2.2.1/\RepS (aR .i64) m a3 c3 p.2.2.2.2.2.2.1/\RepS aH m a4 c4 p.2.2.2.2.2.2.2
abbrev P4(m:Mem)(a0:Option Addr)(c0:Nat)(a1:Option Addr)(c1:Nat)(p:(List (BA))×(List ((BA)×((List (BA))×(List ((Int)×((BA)×((List (BA))×(List ((Int)×((Int)×((Int)×((BA)×(List (Int))))))))))))))):Prop:=RepS aH m a0 c0 p.1/\RepS C7 m a1 c1 p.2
abbrev P5{X1:Type}(m:Mem)(a0:Option Addr)(c0:Nat)(a1:Option Addr)(c1:Nat)(a2:Option Addr)(c2:Nat)(p:(List ((Int)×((BA)×((Int)×(Int)))))×((X1)×((List (BA))×(List ((Int)×((Int)×((Int)×((BA)×(List (Int)))))))))):Prop:=RepS C4 m a0 c0 p.1/\RepS aH m a1 c1 p.2.2.1/\RepS C5 m a2 c2 p.2.2.2
abbrev P6{X1:Type}(m:Mem)(a0:Option Addr)(c0:Nat)(a1:Option Addr)(c1:Nat)(a2:Option Addr)(c2:Nat)(a3:Option Addr)(c3:Nat)(p:((List ((Int)×((BA)×((Int)×(Int)))))×((X1)×((List (BA))×(List ((Int)×((Int)×((Int)×((BA)×(List (Int))))))))))×(List (Int))):Prop:=RepS C4 m a0 c0 p.1.1/\RepS aH m a1 c1 p.1.2.2.1/\RepS C5 m a2 c2 p.1.2.2.2/\RepS (aR .i64) m a3 c3 p.2
abbrev P7{X1:Type}(m:Mem)(a0:Option Addr)(c0:Nat)(a1:Option Addr)(c1:Nat)(a2:Option Addr)(c2:Nat)(a3:Option Addr)(c3:Nat)(p:(List (Int))×((List ((Int)×((BA)×((Int)×(Int)))))×((X1)×((List (BA))×(List ((Int)×((Int)×((Int)×((BA)×(List (Int))))))))))):Prop:=RepS (aR .i64) m a0 c0 p.1/\RepS C4 m a1 c1 p.2.1/\RepS aH m a2 c2 p.2.2.2.1/\RepS C5 m a3 c3 p.2.2.2.2
abbrev _root_.Go.Dc.St.f1:=@Go.Dc.St.front1
abbrev _root_.Go.Dc.St.f10:=@Go.Dc.St.front10
abbrev _root_.Go.Dc.St.f11:=@Go.Dc.St.front11
abbrev _root_.Go.Dc.St.f12:=@Go.Dc.St.front12
abbrev _root_.Go.Dc.St.f2:=@Go.Dc.St.front2
abbrev _root_.Go.Dc.St.f3:=@Go.Dc.St.front3
abbrev _root_.Go.Dc.St.f4:=@Go.Dc.St.front4
abbrev _root_.Go.Dc.St.f5:=@Go.Dc.St.front5
abbrev _root_.Go.Dc.St.f6:=@Go.Dc.St.front6
abbrev _root_.Go.Dc.St.f7:=@Go.Dc.St.front7
abbrev _root_.Go.Dc.St.f8:=@Go.Dc.St.front8
abbrev _root_.Go.Dc.St.f9:=@Go.Dc.St.front9
abbrev _root_.Go.Dc.St.h:=@Go.Dc.St.head
abbrev _root_.Go.Dc.St.t:=@Go.Dc.St.tail
abbrev wr(x:Int):Int:=IntKind.wrap .i64 x
abbrev v2:Value:=vS none ([]:T8) 0
abbrev v6:Value:= .slice none 0 0
abbrev v7:Value:=vS none ([]:To) 0
abbrev v8:Value:=vS none ([]:Ty) 0
abbrev va:Value:=vS none ([]:nV) 0
abbrev vb:Value:=vS none ([]:Tb) 0
abbrev vc:Value:=vS none ([]:oF) 0
abbrev vd:Value:=vS none ([]:eU) 0
abbrev ve:Value:=vS none ([]:JV) 0
abbrev vf:Value:=vS none ([]:mT) 0
abbrev cA{α β γ δ:Type}(o:Nat)(a:Option Addr)(c:Nat)(M:Option Nat)(a':Option Addr)(c':Nat)(V:Option Nat)(x:List α×Bool×γ×List β×δ):Piece:=kB o #[vS a x.1 c,vB x.2.1,.map M,vS a' x.2.2.2.1 c',.map V] 73
abbrev dV{α β γ:Type}(b o:Nat)(a:Option Addr)(c:Nat)(R S:Option Nat)(p:α×List β×Int×γ)(x y:Int)(z:Bool):Piece:=kB b #[vP o 0,vS a p.2.1 c,.int .u64 p.2.2.1,.map R,vI x,vI y,vB z,.map S] 121
abbrev lT{α β γ δ:Type}(b o:Nat)(a:Option Addr)(c:Nat)(R S:Option Nat)(p:α×List β×Int×γ×Int×Int×Bool×δ):Piece:=dV b o a c R S p p.2.2.2.2.1 p.2.2.2.2.2.1 p.2.2.2.2.2.2.1
abbrev iL{α β γ δ ε:Type}(p:(BA×List α×List β)×(Int×BA×List γ×List δ)×List ε)(a:Option Addr)(c:Nat)(a':Option Addr)(c':Nat)(a'':Option Addr)(c'':Nat)(b:Option Addr)(d:Nat)(b':Option Addr)(d':Nat):Array Value:=Vk p.1.1 a p.1.2.1 c a' p.1.2.2 c' p.2.1.1 p.2.1.2.1 a'' p.2.1.2.2.1 c'' b p.2.1.2.2.2 d b' p.2.2 d'
abbrev dZ:Array Value:=V5 0 eB 0 0
abbrev dX:Array Value:=Vf eB eB 0 eB 0 0
end
end Go.Proofs.YtleaknfdlaokiaaGreatDoor
