/- No condition but those of each theorem. -/
import Derived.Test.YtgboehjfofcogaaGreatDoorProg
import Derived.WalkKit
import Derived.Deep.LoopGhost
import Derived.KernelRfl
import Derived.OrdersHeld
import Derived.OrdersIn
import Derived.LoopNIn
import Derived.Sort.LoopGhostIn
import Derived.Laws.AppendOwn
import Derived.RangeFuncLeaves
import Derived.RangeFuncRecord
import Derived.MapKept
import Derived.Maps.RangeRun
import Derived.ChangeKeysEq
import Derived.HandedShaped
import Derived.ChangeStays
import Derived.ChangeSame
import Derived.OpenShut
import Derived.WideShapes
import Derived.JoinedOf
import Derived.ReadAgain
import Derived.ChangeAt
import Derived.RowKit
import Derived.Lib.Overlaps
import Derived.Shelf.SlSortCmp.NoneTotal
import Derived.WalkSmall
import Derived.Recover
section
theorem aa{p:Prop}(h:p:=by omega):p:=h
theorem ac{p:Prop}(h:p:=by decide):p:=h
theorem ad{p:Prop}(h:p:=by simp):p:=h
theorem ae{p:Prop}(h:p:=by decide+kernel):p:=h
theorem af{p:Prop}(h:p:=by assumption):p:=h
theorem ag{p:Prop}(h:p:=by kernel_rfl):p:=h
theorem ah{p:Prop}(h:p:=by simp;omega):p:=h
theorem ai{p:Prop}(h:p:=by simp only;omega):p:=h
namespace Go
abbrev wI(x:Int):Int:=IntKind.wrap .i64 x
abbrev j0:=@Option.bind_some
abbrev j7:=@Bool.false_eq_true
abbrev jA:=@if_neg
abbrev jB:=@if_pos
abbrev jC:=@List.mem_cons_of_mem
abbrev jD:=@List.mem_cons_self
abbrev jE:=@if_false
abbrev jF:=@List.pairwise_cons
abbrev jG:=@List.mem_cons
abbrev jH:=@Nat.le_refl
abbrev jI:=@List.getElem_mem
abbrev jJ:=@if_true
abbrev jK:=@Option.map_eq_some_iff
abbrev jL:=@List.all_eq_true
abbrev jM:=@Option.some.injEq
abbrev jN:=@List.drop_eq_getElem_cons
abbrev jO:=@Nat.not_lt_zero
abbrev jP:=@List.length_append
abbrev jQ:=@Nat.zero_le
abbrev jR:=@decide_eq_true_eq
abbrev jS:=@List.length_cons
abbrev jT:=@Int.toNat_natCast
abbrev jU:=@Bool.and_eq_true
abbrev jV:=@Option.bind_eq_some_iff
abbrev jW:=@List.append_assoc
abbrev jX:=@Option.some.inj
abbrev jY:=@List.getElem_cons_drop
abbrev jZ:=@List.drop_eq_nil_of_le
abbrev kA:=@congrArg
abbrev kC:=@decide_eq_false
abbrev kD:=@Nat.mul_le_mul_right
abbrev kE:=@decide_eq_true
abbrev kF:=@List.eq_nil_of_length_eq_zero
abbrev kG:=@List.take_succ_eq_append_getElem
abbrev kH:=@List.length_nil
abbrev kI:=@List.foldl_cons
abbrev kJ:=@List.mem_append
abbrev kK:=@Bool.not_true
abbrev kL:=@List.mem_flatMap
abbrev kM:=@Nat.le_trans
abbrev kN:=@Nat.add_mul
abbrev kO:=@List.map_cons
abbrev kP:=@List.drop_zero
abbrev kQ:=@List.mem_append_left
abbrev kS:=@List.length_take
abbrev kT:=@List.nil_append
abbrev kU:=@List.flatMap_cons
abbrev kV:=@Bool.not_false
abbrev kW:=@List.mem_append_right
abbrev kX:=@List.perm_middle
abbrev kY:=@List.mem_singleton
abbrev kZ:=@List.takeWhile_append_dropWhile
abbrev gA:=@List.length_eq_zero_iff
abbrev gB:=@Int.le_refl
abbrev gC:=@List.not_mem_nil
abbrev gD:=@List.length_drop
abbrev gE:=@List.mem_map_of_mem
abbrev gF:=@List.mem_map
abbrev gG:=@List.takeWhile_cons_of_pos
abbrev gH:=@List.getD_eq_getElem?_getD
abbrev gI:=@List.take_of_length_le
abbrev gJ:=@Option.map_some
abbrev gK:=@Nat.le_of_ble_eq_true
abbrev gL:=@List.mem_filter
abbrev gM:=@List.take_append_of_le_length
abbrev gN:=@Nat.zero_add
abbrev gO:=@of_decide_eq_true
abbrev gP:=@beq_iff_eq
abbrev gQ:=@List.size_toArray
abbrev gS:=@List.length_map
abbrev gT:=@List.append_nil
abbrev gU:=@List.drop_of_length_le
abbrev gV:=@List.cons_append
abbrev gW:=@List.take_append_drop
abbrev gX:=@List.length_replicate
abbrev gY:=@Bool.true_and
abbrev gZ:=@List.mem_range
abbrev fA:=@Option.bind_assoc
abbrev fB:=@Nat.add_zero
abbrev fC:=@List.pairwise_singleton
abbrev fD:=@List.flatMap_append
abbrev fE:=@List.all_eq_not_any_not
abbrev fF:=@List.all_cons
abbrev fG:=@List.any_eq_true
abbrev fH:=@Nat.lt_of_lt_of_le
abbrev fI:=@Nat.eq_of_beq_eq_true
abbrev fJ:=@List.nodup_cons
abbrev fK:=@List.mem_iff_getElem?
abbrev fL:=@List.cons.injEq
abbrev fM:=@List.map_inj_left
abbrev fN:=@List.ext_getElem?
abbrev fO:=@Bool.not_eq_true'
abbrev fP:=@List.takeWhile_cons_of_neg
abbrev fQ:=@List.mem_of_getElem?
abbrev fR:=@Array.toList_extract
abbrev fS:=@List.pairwise_iff_getElem
abbrev fT:=@List.mem_of_find?_eq_some
abbrev fU:=@List.drop_append
abbrev fV:=@Int.natCast_succ
abbrev fW:=@List.length_pos_iff
abbrev fX:=@Bool.eq_false_or_eq_true
abbrev fY:=@Nat.add_sub_cancel
abbrev fZ:=@Bool.eq_iff_iff
abbrev hH:=@bne_iff_ne
abbrev hJ:=@Option.getD_some
abbrev hK:=@List.take_length
abbrev hQ:=@Nat.add_assoc
abbrev hR:=@Nat.one_mul
abbrev hY:=@or_false
abbrev BA:=ByteArray
end Go
end
namespace Go.Dc
section
theorem kr{p:Prop}(h:p:=by kernel_rfl):p:=h
abbrev bO:=List (Nat×Value)
def look:bO->Nat->Option Value
 |[],_=>none
 |(k,v)::L,t=>bif Nat.beq k t then some v else look L t
def bS(L:bO):Operand->Option Value
 | .tmp t=>look L t
 | .const v=>some v
 | .global g=>some (.pointer (some ⟨g,0,none⟩))
 | .func f=>some (.func (.func f) #[] #[])
theorem ev{L:bO}{x:Operand}(v:Value)(h:bS L x=some v:=by kernel_rfl):bS L x=some v:=h
def nX(L:bO)(x:Operand):Value:=(bS L x).getD undef
structure Fr where
 sz:Nat
 marks:List Deferred
instance:Coe Fr Nat:=⟨Fr.sz⟩
def NR(D:Nat):Deferred:={target:= .collected D,args:= #[]}
def Fits(n:Fr)(a:Act)(L:bO):Prop:=a.tmps.size=n.sz/\a.defers=n.marks/\∀t v,look L t=some v->a.tmps[t]? =some v
theorem Fits.ev{n:Fr}{a:Act}{L:bO}(h:Fits n a L){x:Operand}{v:Value}(b:bS L x=some v):a.eval x=v:=by
 cases x with
 |tmp t=>simp[Act.eval,h.2.2 t v b]
 |const u=>grind [bS,Go.Act.eval]
 |global g=>simp[bS] at b;simp[Act.eval,b]
 |func f=>grind [bS,Go.Act.eval]
def Jr:Op->Bool
 | .select .. =>false
 |_=>true
def UA(L:bO):List Operand->Bool
 |[]=>true
 |x::l=>(bS L x).isSome&&UA L l
def xB(L:bO)(o:Op):Bool:=Jr o&&UA L o.operands.toList
theorem Zf{L:bO}{l:List Operand}(h:UA L l=true):∀x∈l,(bS L x).isSome=true:=by
 induction l with
 |nil=>simp
 |cons y l a=>
  grind [UA]
theorem Fits.exec{n:Fr}{a:Act}{L:bO}(h:Fits n a L){o:Oper}(ok:xB L o.op=true):execOp a.eval o=execOp (nX L) o:=by
 simp only[xB,jU] at ok
 refine execOp_congr o ?_ ?_
 .grind [Jr]
 intro x c
 have:=Zf ok.2 x (by simpa using c)
 obtain⟨v,b⟩:=Option.isSome_iff_exists.1 this
 rw[h.ev b];simp[nX,b]
theorem Fits.put{n:Fr}{a:Act}{L:bO}(h:Fits n a L){d:Nat}(f:Nat.blt d n=true)(v:Value):Fits n (a.put (some d) v) ((d,v)::L):=by
 obtain⟨b,c,e⟩:=h
 have hd':d<n:=by simp_all
 refine⟨by grind [Go.Act.put],by grind [Go.Act.put],?_⟩
 grind [look,Go.Act.put,Nat.beq_eq]
theorem Fits.sub{n:Fr}{a:Act}{L L':bO}(h:Fits n a L)(b:∀t v,look L' t=some v->look L t=some v):Fits n a L':=
 ⟨h.1,h.2.1,λt v c=>h.2.2 t v (b t v c)⟩
def xK(P:Program){α:Type}:Sem α->Option α
 | .pure a=>some a
 | .program k=>xK P (k P)
 | .mark _ k=>xK P k
 |_=>none
theorem Ar{P:Program}{α:Type}{s:Sem α}{a:α}(h:xK P s=some a)(w:World):s.run P w= .ok a w:=by
 induction s with
 |pure b=>simp[xK] at h;subst h;rfl
 |program k c=>exact c P h
 |mark m k c=>exact c h
 |_=>simp[xK] at h
def tQ(ops:Array Oper)(L:bO)(g:Option (Nat×Bool)):Option Bool:=
 match g with
 |none=>some true
 |some (j,want)=>match(ops[j]?).bind (·.dst) with
  |none=>some false
  |some t=>match look L t with
   |none=>none
   |some (.bool b)=>some (bif want then b else !b)
   |some _=>some false
theorem Fits.wanted{n:Fr}{a:Act}{L:bO}(h:Fits n a L){ops:Array Oper}{o:Oper}{b:Bool}(c:tQ ops L o.guard=some b):
  Region.wanted o (yielded ops a.tmps)=b:=by
 unfold tQ at c
 unfold Region.wanted
 cases hg:o.guard with
 |none=>grind
 |some jw=>
  obtain⟨j,want⟩:=jw
  simp only[hg] at c
  simp only[yielded]
  cases hd:(ops[j]?).bind (·.dst) with
  |none=>grind
  |some t=>
   simp only[hd] at c
   cases ht:look L t with
   |none=>grind
   |some v=>
    have:=h.2.2 t v ht
    simp only[ht] at c
    cases v<;>simp_all<;>(subst c;cases want<;>simp)
def putL(n:Nat)(d:Option Nat)(v:Value)(L:bO):Option bO:=
 match d with
 |none=>some L
 |some d=>bif Nat.blt d n then some ((d,v)::L) else none
def asV:Option Next->Option Value
 |some (.value v)=>some v
 |some .skip=>some undef
 |_=>none
def lZ(P:Program)(n:Nat)(ops:Array Oper):Nat->Nat->bO->Option bO
 |0,_,L=>some L
 |k+1,i,L=>match ops[i]? with
  |none=>none
  |some o=>match tQ ops L o.guard with
   |none=>none
   |some false=>(putL n o.dst undef L).bind λL=>lZ P n ops k (i+1) L
   |some true=>bif xB L o.op then(asV (xK P (execOp (nX L) o))).bind λv=>(putL n o.dst v L).bind λL=>lZ P n ops k (i+1) L else none
def pB(ops:Array Oper):Nat->Nat->List Nat
 |0,_=>[]
 |k+1,i=>((ops[i]?).bind (·.dst)).toList++pB ops k (i+1)
def iK(ρ:Option Nat):Fence:={Fence.wide with round:=ρ}
def oZ(P:Program)(ops:Array Oper)(Q:Exit->Act->World->Prop)(i:Nat)(K:Act->World->Prop)(a:Act)(w:World):Prop:=
 match ops[i]? with
 |none=>K a w
 |some o=>if Region.wanted o (yielded ops a.tmps) then o.uponIn Fence.wide 0 P a K Q ((execOp a.eval o).run P w) else K (a.put o.dst undef) w
def DK(P:Program)(ops:Array Oper)(Q:Exit->Act->World->Prop):List Nat->Act->World->Prop
 |[],a,w=>Q .normal a w
 |i::rest,a,w=>oZ P ops Q i (DK P ops Q rest) a w
theorem He{ρ:Option Nat}{P:Program}{o:Oper}{a:Act}{K K':Act->World->Prop}{Q:Exit->Act->World->Prop}{r:Result Next}(h:∀a w,K a w->K' a w)(c:o.uponIn Fence.wide 0 P a K Q r):o.uponIn (iK ρ) 0 P a K' Q r:=by
 cases r with
 |ok x w'=>
  cases x<;>simp only[Oper.uponIn] at c ⊢ <;>
   first
    |exact h _ _ c
    |exact⟨λe=>by simp[iK,Fence.wide] at e,CallsIn.mono (F:=iK ρ) c.2 (λe w'' b=>by cases e<;>first|exact h _ _ b|exact b)⟩
    |exact⟨λe=>by simp[iK,Fence.wide] at e,RowsIn.mono (F:=iK ρ) c.2 (λ_ _ b=>h _ _ b)⟩
    |exact⟨λe=>by simp[iK,Fence.wide] at e,RoundIn.mono (F:=iK ρ) c.2 (λe w'' b=>by cases e<;>first|exact h _ _ b|exact b)⟩
 |halt x w'=>cases x<;>simp only[Oper.uponIn] at c ⊢ <;>exact c
theorem TV{P:Program}{ops:Array Oper}{Q:Exit->Act->World->Prop}{i:Nat}{K K':Act->World->Prop}{a:Act}{w:World}(h:∀a w,K a w->K' a w)(b:oZ P ops Q i K a w):oZ P ops Q i K' a w:=by
 unfold oZ at*
 split
 .grind
 rename_i o ho
 simp only[ho] at b
 split
 .rename_i hw;simp only[hw,jJ] at b;exact He (ρ:=none) h b
 grind
def HD(ρ:Option Nat)(ops:Array Oper):Bool:=
 match ρ with
 |none=>true
 |some _=>ops.toList.all λo=>match o.op with
  | .defer _=>false
  |_=>true
theorem Zi{ρ:Option Nat}{ops:Array Oper}(h:HD ρ ops=true){i:Nat}{o:Oper}(b:ops[i]? =some o)(ev:Operand->Value):o.semAt ρ ev=execOp ev o:=by
 cases ρ with
 |none=>rfl
 |some l=>
  refine Oper.semAt_eq _ _ _ λc a=> ?_
  have:=jL.1 h o (by grind)
  grind
theorem Qq{ρ:Option Nat}{P:Program}{ops:Array Oper}{Q:Exit->Act->World->Prop}(c:HD ρ ops=true){i:Nat}{K K':Act->World->Prop}(b:∀a w,K a w->K' a w){a:Act}{w:World}(h:oZ P ops Q i K a w):wpOpIn (iK ρ) 0 P ops Q i K' a w:=by
 unfold oZ at h
 unfold wpOpIn
 cases ho:ops[i]? with
 |none=>grind
 |some o=>
  simp only[ho] at h ⊢
  by_cases hw:Region.wanted o (yielded ops a.tmps)=true
  .simp only[hw,jJ] at h ⊢
   refine⟨λ_ _=>trivial,?_⟩
   grind [iK,Zi,He]
  simp only[hw] at h ⊢
  exact⟨λ_ _=>trivial,b _ _ h⟩
theorem Pa{ρ:Option Nat}{P:Program}{ops:Array Oper}{Q:Exit->Act->World->Prop}(b:HD ρ ops=true):∀(l:List Nat) (a:Act) (w:World),DK P ops Q l a w->wpOpsIn (iK ρ) 0 P ops Q l a w
 |[],_,_,h=>h
 |i::rest,a,w,h=>by
  rw[wpOpsIn_cons]
  exact Qq b (Pa b rest) h
def WO(P:Program)(n:Fr)(ops:Array Oper)(Q:Exit->Act->World->Prop)(i:Nat)(L:bO)(w:World):Prop:=
 ∀a,Fits n a L->DK P ops Q (List.range' i (ops.size-i)) a w
theorem Ke{ops:Array Oper}{i:Nat}{o:Oper}(h:ops[i]? =some o):List.range' i (ops.size-i)=i::List.range' (i+1) (ops.size-(i+1)):=by
 have hi:i<ops.size:=(Array.getElem?_eq_some_iff.1 h).1
 have:ops.size-i=(ops.size-(i+1))+1:=by omega
 grind [List.range'_succ]
theorem Fits.putL{n:Fr}{a:Act}{L L':bO}(h:Fits n a L){d:Option Nat}{v:Value}(b:Dc.putL n d v L=some L'):Fits n (a.put d v) L':=by
 cases d with
 |none=>simp[Dc.putL] at b;subst b;exact h
 |some d=>
  simp only[Dc.putL] at b
  cases hb:Nat.blt d n with
  |false=>grind
  |true=>simp[hb] at b;subst b;exact h.put hb v
section
variable {P:Program} {n:Fr} {ops:Array Oper} {Q:Exit->Act->World->Prop}
theorem Ba:∀(k i:Nat) (L L':bO) (w:World),lZ P n ops k i L=some L'->WO P n ops Q (i+k) L' w->WO P n ops Q i L w
 |0,i,L,L',w,h,l=>by grind [lZ]
 |k+1,i,L,L',w,h,l=>by
  intro a d
  simp only[lZ] at h
  cases ho:ops[i]? with
  |none=>grind
  |some o=>
   simp only[ho] at h
   rw[Ke ho]
   simp only[DK,oZ,ho]
   cases hw:tQ ops L o.guard with
   |none=>grind
   |some b=>
    have c:=d.wanted hw
    cases b with
    |false=>
     simp only[hw] at h
     obtain⟨L1,e,f⟩:=jV.1 h
     simp only[c,j7,jE]
     exact Ba k (i+1) L1 L' w f (by grind) _ (d.putL e)
    |true=>
     simp only[hw] at h
     cases hok:xB L o.op with
     |false=>grind
     |true=>
      simp only[hok,cond_true] at h
      obtain⟨v,g,h⟩:=jV.1 h
      obtain⟨L1,e,f⟩:=jV.1 h
      simp only[c,jJ]
      have next:=Ba k (i+1) L1 L' w f (by grind) _ (d.putL e)
      rw[d.exec hok]
      cases hev:xK P (execOp (nX L) o) with
      |none=>grind [asV]
      |some nx=>
       rw[Ar hev w]
       cases nx<;>simp[hev,asV] at g
       case value u=>subst g;exact next
       case skip=>subst g;exact next
theorem GU{d:Nat}{v:Value}:∀{l:bO},look l d=some v->(d,v)∈l
 |[],h=>by grind [look]
 |(k,u)::l,h=>by
  simp only[look] at h
  cases hb:Nat.beq k d with
  |true=>simp_all
  |false=>simp[hb] at h;exact jC _ (GU h)
def dH(ops:Array Oper)(L:bO)(i:Nat):Option (Option Nat×Op):=
 match ops[i]? with
 |none=>none
 |some o=>match tQ ops L o.guard with
  |some true=>bif xB L o.op then some (o.dst,o.op) else none
  |_=>none
theorem GQ{L:bO}{i:Nat}{d:Option Nat}{op:Op}(h:dH ops L i=some (d,op)):
  ∃o,ops[i]? =some o/\o.dst=d/\o.op=op/\tQ ops L o.guard=some true/\xB L o.op=true:=by
 grind [dH]
def dZ(P:Program)(n:Fr)(ops:Array Oper)(Q:Exit->Act->World->Prop)(i:Nat)(N:bO->World->Prop)(L:bO)(w:World):Prop:=
 ∀a,Fits n a L->oZ P ops Q i (λa' w'=>∃L',Fits n a' L'/\N L' w') a w
theorem tT{i:Nat}{L:bO}{w:World}(hi:Nat.blt i ops.size=true)(h:dZ P n ops Q i (λL w=>WO P n ops Q (i+1) L w) L w):WO P n ops Q i L w:=by
 have hi':i<ops.size:=by simp_all
 intro a d
 have e:ops[i]? =some ops[i]:=Array.getElem?_eq_getElem hi'
 rw[Ke e]
 have fin:∀a' w',(∃L',Fits n a' L'/\WO P n ops Q (i+1) L' w')->DK P ops Q (List.range' (i+1) (ops.size-(i+1))) a' w':=λa' w' ⟨L',b,c⟩=>c a' b
 exact TV fin (h a d)
variable {N:bO->World->Prop}
theorem lO{i d:Nat}{op:Op}{L:bO}{w w':World}{v:Value}(q:dH ops L i=some (some d,op))(p:Nat.blt d n=true)
  (c:∀o:Oper,o.op=op->(execOp (nX L) o).run P w= .ok (.value v) w')
  (h:N ((d,v)::L) w'):dZ P n ops Q i N L w:=by
 obtain⟨o,e,f,g,k,l⟩:=GQ q
 intro a b
 unfold oZ
 simp only[e,b.wanted k,jJ]
 rw[b.exec l,c o g,Oper.uponIn_value,f]
 exact⟨_,b.put p v,h⟩
theorem CP{i:Nat}{op:Op}{L:bO}{w w':World}(l:dH ops L i=some (none,op))
  (c:∀o:Oper,o.op=op->(execOp (nX L) o).run P w= .ok .skip w')
  (h:N L w'):dZ P n ops Q i N L w:=by
 obtain⟨o,d,e,f,g,k⟩:=GQ l
 intro a b
 unfold oZ
 simp only[d,b.wanted g,jJ]
 rw[b.exec k,c o f,Oper.uponIn_skip,e]
 exact⟨_,b,h⟩
theorem GS{i d:Nat}{op:Op}{L:bO}{w w':World}{v:Value}(q:dH ops L i=some (some d,op))(l:Nat.blt d n=true)
  (c:∀o:Oper,o.op=op->∃v' w',(execOp (nX L) o).run P w= .ok (.value v') w'/\N ((d,v')::L) w'):dZ P n ops Q i N L w:=by
 obtain⟨o,e,f,g,h,k⟩:=GQ q
 obtain⟨v',w'',r,p⟩:=c o g
 intro a b
 unfold oZ
 simp only[e,b.wanted h,jJ]
 rw[b.exec k,r,Oper.uponIn_value,f]
 exact⟨_,b.put l v',p⟩
def sY(P:Program)(ops:Array Oper)(L:bO)(i:Nat):Option (Option Nat×Nat×Array Value):=
 match ops[i]? with
 |none=>none
 |some o=>match tQ ops L o.guard with
  |some true=>bif xB L o.op then(match xK P (execOp (nX L) o) with
   |some (.enter f args)=>some (o.dst,f,args)
   |_=>none) else none
  |_=>none
theorem Zs{L:bO}{i f:Nat}{d:Option Nat}{args:Array Value}(h:sY P ops L i=some (d,f,args)):
  ∃o,ops[i]? =some o/\o.dst=d/\tQ ops L o.guard=some true/\xB L o.op=true/\xK P (execOp (nX L) o)=some (.enter f args):=by
 grind [sY]
theorem nE{i:Nat}{L:bO}{w:World}(d f:Nat)(args:Array Value)(q:sY P ops L i=some (some d,f,args))(k:Nat.blt d n=true)
  (h:Calls P f args w λe w'=>∃v,e= .returned v/\N ((d,v)::L) w'):dZ P n ops Q i N L w:=by
 obtain⟨o,c,g,r,p,l⟩:=Zs q
 intro a b
 unfold oZ
 simp only[c,b.wanted r,jJ]
 rw[b.exec p,Ar l w,Oper.uponIn_enter]
 refine⟨λe=>by grind [Go.Fence.wide],CallsIn.mono (callsIn_wide.2 h) ?_⟩
 rintro e w' ⟨v,rfl,hk'⟩
 rw[g]
 exact⟨_,b.put k v,hk'⟩
theorem Qi{L:bO}{w:World}{i:Nat}(hi:ops.size=i)(h:∀a,Fits n a L->Q .normal a w):WO P n ops Q i L w:=by
 intro a b
 grind [DK]
theorem Rf{i:Nat}{L:bO}{w:World}(L':bO)(e:L'.map (λp=>look L p.1)=L'.map λp=>some p.2)(h:WO P n ops Q i L' w):WO P n ops Q i L w:=by
 intro a b
 refine h a (b.sub ?_)
 intro t v c
 have d:=GU c
 grind [List.map_inj_left]
end
def W(ρ:Option Nat)(P:Program)(n:Fr)(c:Code)(Q:Exit->Act->World->Prop)(L:bO)(w:World):Prop:=∀a,Fits n a L->c.wpIn (iK ρ) 0 P Q a w
def X(n:Fr)(Q:Exit->Act->World->Prop)(e:Exit)(L:bO)(w:World):Prop:=∀a,Fits n a L->Q e a w
section
variable {ρ:Option Nat} {P:Program} {n:Fr} {Q:Exit->Act->World->Prop} {L:bO} {w:World}
theorem aY{y:Code}(h:W ρ P n y Q L w):X n (Exit.then (λa w=>y.wpIn (iK ρ) 0 P Q a w) Q) .normal L w:=h
theorem ML{K:Act->World->Prop}{id:Nat}(h:X n Q (.exit id) L w):X n (Exit.then K Q) (.exit id) L w:=h
theorem bD{K:Act->World->Prop}(h:X n Q .ret L w):X n (Exit.then K Q) .ret L w:=h
theorem iX{id:Nat}(h:X n Q .normal L w):X n (Exit.inBlock id Q) .normal L w:=h
theorem cH{id:Nat}(h:X n Q .ret L w):X n (Exit.inBlock id Q) .ret L w:=h
theorem oK{id:Nat}(h:X n Q .normal L w):X n (Exit.inBlock id Q) (.exit id) L w:=by
 intro a b;simp only[Exit.inBlock,jJ];exact h a b
theorem MS{id id':Nat}(b:Nat.beq id' id=false)(h:X n Q (.exit id') L w):X n (Exit.inBlock id Q) (.exit id') L w:=by
 intro a c
 have:¬id'=id:=by rintro rfl;simp at b
 simp only[Exit.inBlock,jA this];exact h a c
theorem aF{x y:Code}(h:W ρ P n x (Exit.then (λa w=>y.wpIn (iK ρ) 0 P Q a w) Q) L w):W ρ P n (.seq x y) Q L w:=λa b=>wpIn_seq (h a b)
theorem lU(h:X n Q .normal L w):W ρ P n .skip Q L w:=λa b=>wpIn_skip (h a b)
theorem bI(h:X n Q .ret L w):W ρ P n .ret Q L w:=λa b=>wpIn_ret (h a b)
theorem UN{id:Nat}(h:X n Q (.exit id) L w):W ρ P n (.exit id) Q L w:=λa b=>wpIn_exit (h a b)
theorem aU{id:Nat}{c:Code}(h:W ρ P n c (Exit.inBlock id Q) L w):W ρ P n (.block id c) Q L w:=λa b=>wpIn_block (h a b)
theorem YB{id:Nat}{ops:Array Oper}(c:HD ρ ops=true)(h:WO P n ops Q 0 L w):W ρ P n (.region id ops false) Q L w:=by
 intro a b
 refine wpIn_region (Pa c _ _ _ ?_)
 have:=h a b
 grind [List.range_eq_range']
theorem oL{id:Nat}{ops:Array Oper}(h:WO P n ops Q 0 L w):W none P n (.region id ops false) Q L w:=YB rfl h
theorem AN{c:Operand}{x y:Code}(b:Bool)(e:bS L c=some (.bool b))(g:b=true->W ρ P n x Q L w)(f:b=false->W ρ P n y Q L w):W ρ P n (.cond c x y) Q L w:=
 λa d=>wpIn_cond_split (d.ev e) (λh=>g h a d) (λh=>f h a d)
theorem qLv{c:Code}(L':bO)(d:L'.map (λp=>look L p.1)=L'.map λp=>some p.2)(h:W ρ P n c Q L' w):W ρ P n c Q L w:=by
 intro a b
 refine h a (b.sub ?_)
 intro t v e
 exact(fM.1 d) (t,v) (GU e)
theorem DF{e:Exit}(L':bO)(c:L'.map (λp=>look L p.1)=L'.map λp=>some p.2)(h:X n Q e L' w):X n Q e L w:=by
 intro a b
 refine h a (b.sub ?_)
 intro t v d
 exact(fM.1 c) (t,v) (GU d)
theorem qJd{c:Code}(I:Nat->bO->World->Prop)(k:Nat)(d:I k L w)
  (round:∀k L w,I k L w->W ρ P n c (Exit.then (λa' w'=>∃k' L',k'<k/\Fits n a' L'/\I k' L' w') Q) L w):W ρ P n (.loop c) Q L w:=by
 intro a b
 refine wpIn_loop_ghost (λk a w=>∃L,Fits n a L/\I k L w) k ⟨L,b,d⟩ ?_
 rintro k a w ⟨L,b,e⟩
 refine wpIn_mono (round k L w e a b) ?_
 grind
theorem qHa{k:Nat}{I:Nat->bO->World->Prop}(k':Nat)(b:k'<k)(h:I k' L w):X n (Exit.then (λa' w'=>∃k' L',k'<k/\Fits n a' L'/\I k' L' w') Q) .normal L w:=
 λ_ a=>⟨k',L,b,a,h⟩
theorem qHu{f:FuncId}{fn:Func}{c:Code}{args:Array Value}{R:Ending->World->Prop}(d:P.funcs[f]? =some fn)(b:fn.body=some c){k:Nat}(l:fn.ntmps=k)(L:bO)
  (a:L.map (λp=>(args[p.1]?))=L.map λp=>some p.2) (g:Nat.ble args.size k=true) (h:W none P ⟨k,[]⟩ c (bodyPost P fn R) L w):Calls P f args w R:=by
 refine calls_of_wp d b (wpIn_wide.1 (h _ ⟨?_,rfl,?_⟩))
 .simp_all
 intro t v e
 have:=(fM.1 a) (t,v) (GU e)
 grind
end
attribute [irreducible] DK
end
section
def Sc:List (Nat×Array Value):=[]
structure Mem where
 cell:Nat->Nat->Option Value
 obj:Nat->Option Obj
 wd:World
 ht:∀p∈Sc,∃t f,obj p.1=some (.cells p.2 t f)
def qGv:Bool:=true
def Step(w w':World):Prop:=(w'.os=w.os/\w'.output=w.output)/\w'.tape=w.tape/\(qGv=true->w.drawn<=w'.drawn)
theorem mQ{p:Prop}(h:p:=by first|exact λ_=>jH _|exact λ_=>Nat.le_succ _):p:=h
theorem Step.refl(w:World):Step w w:=⟨⟨rfl,rfl⟩,rfl,mQ⟩
theorem Step.trans{c d e:World}(a:Step c d)(b:Step d e):Step c e:=⟨⟨b.1.1.trans a.1.1,b.1.2.trans a.1.2⟩,b.2.1.trans a.2.1,λh=>kM (a.2.2 h) (b.2.2 h)⟩
def Mem.le(m m':Mem):Prop:=(∀b o v,m.cell b o=some v->m'.cell b o=some v)/\(∀b x,m.obj b=some x->m'.obj b=some x)/\m.wd=m'.wd
theorem Mem.le_refl(m:Mem):m.le m:=⟨λ_ _ _ h=>h,λ_ _ h=>h,rfl⟩
theorem Mem.le_trans{c d e:Mem}(a:c.le d)(b:d.le e):c.le e:=⟨λ_ _ _ h=>b.1 _ _ _ (a.1 _ _ _ h),λ_ _ h=>b.2.1 _ _ (a.2.1 _ _ h),a.2.2.trans b.2.2⟩
def Inv(m:Mem)(w:World):Prop:=
 (∀b o v,m.cell b o=some v->∃c e f,w.heap[b]? =some (.cells c e f)/\c[o]? =some v)/\(∀b x,m.obj b=some x->w.heap[b]? =some x)/\Step m.wd w
inductive Piece where
 |blk (b:Nat) (o:Obj)
 |room (a:Option Addr) (n cap:Nat) (e:TypeId) (sz:Nat)
def Piece.block:Piece->Option Nat
 | .blk b _=>some b
 | .room a _ _ _ _=>a.map (·.block)
def Cy(m:Mem)(b:Nat):Prop:=(∀o,m.cell b o=none)/\m.obj b=none
def Piece.holds(m:Mem)(w:World):Piece->Prop
 | .blk b o=>w.heap[b]? =some o/\Cy m b
 | .room none n cap _ _=>n=0/\cap=0
 | .room (some p) n cap e sz=>p.off=0/\p.spot=none/\n<=cap/\cap<=maxLen/\(∃cur,w.heap[p.block]? =some (.cells cur e (0,0))/\cur.size=cap*sz)/\
  (∀o,n*sz<=o->m.cell p.block o=none)/\m.obj p.block=none
def St(m:Mem)(own:List Piece)(w:World):Prop:=Inv m w/\(∀p∈own,p.holds m w)/\(own.filterMap Piece.block).Nodup
theorem tP{w:World}{b:Nat}{x:Obj}(h:w.heap[b]? =some x):b<w.heap.size:=(Array.getElem?_eq_some_iff.1 h).1
theorem Piece.holds_lt{m:Mem}{w:World}{p:Piece}(h:p.holds m w){b:Nat}(d:p.block=some b):b<w.heap.size:=by
 cases p with
 |blk c o=>simp[Piece.block] at d;subst d;exact tP h.1
 |room a n cap e sz=>
  cases a with
  |none=>grind [Piece.block]
  |some q=>simp[Piece.block] at d;subst d;obtain⟨_,_,_,_,⟨cur,f,_⟩,_⟩:=h;exact tP f
theorem St.inv{m:Mem}{own:List Piece}{w:World}(h:St m own w):Inv m w:=h.1
theorem St.fresh_free{m:Mem}{own:List Piece}{w:World}(h:St m own w):Cy m w.heap.size:=by
 constructor
 .intro o
  cases hc:m.cell w.heap.size o with
  |none=>rfl
  |some v=>
   obtain⟨c,e,f,a,_⟩:=h.1.1 _ _ _ hc
   grind
 cases hc:m.obj w.heap.size with
 |none=>rfl
 |some x=>have:=tP (h.1.2.1 _ _ hc);omega
theorem Inv.keep{m:Mem}{w w':World}(h:Inv m w)(n:Step w w')(k:∀b,(∃x,w.heap[b]? =some x)->¬Cy m b->w'.heap[b]? =w.heap[b]?):Inv m w':=by
 refine⟨?_,?_,h.2.2.trans n⟩
 .intro b o v g
  obtain⟨c,e,f,a,l⟩:=h.1 b o v g
  exact⟨c,e,f,by rw[k b ⟨_,a⟩ (λd=>by rw[d.1 o] at g;cases g)];exact a,l⟩
 intro b x g
 have a:=h.2.1 b x g
 rw[k b ⟨_,a⟩ (λd=>by rw[d.2] at g;cases g)];exact a
theorem Piece.holds_keep{m:Mem}{w w':World}{p:Piece}(h:p.holds m w)(d:∀b,p.block=some b->w'.heap[b]? =w.heap[b]?):p.holds m w':=by
 cases p with
 |blk c o=>exact⟨by rw[d c rfl];exact h.1,h.2⟩
 |room a n cap e sz=>
  cases a with
  |none=>exact h
  |some q=>
   obtain⟨f,g,k,l,⟨cur,r,s⟩,t⟩:=h
   exact⟨f,g,k,l,⟨cur,by rw[d _ rfl];exact r,s⟩,t⟩
theorem St.grow{m:Mem}{own:List Piece}{w w':World}(h:St m own w)(e:Step w w')(a:∀b,b<w.heap.size->w'.heap[b]? =w.heap[b]?):St m own w':=
 ⟨h.1.keep e λb ⟨_,f⟩ _=>a b (tP f),λp c=>Piece.holds_keep (h.2.1 p c) λb d=>a b (Piece.holds_lt (h.2.1 p c) d),h.2.2⟩
theorem TK{own:List Piece}{b:Nat}:b∈own.filterMap Piece.block↔∃p∈own,p.block=some b:=by simp[List.mem_filterMap]
theorem St.block_lt{m:Mem}{own:List Piece}{w:World}(h:St m own w){b:Nat}(c:b∈own.filterMap Piece.block):b<w.heap.size:=by
 obtain⟨p,d,a⟩:=TK.1 c
 exact Piece.holds_lt (h.2.1 p d) a
theorem St.alloc{m:Mem}{own:List Piece}{w w':World}(h:St m own w){o:Obj}(e:Step w w')(f:w'.heap=w.heap.push o):St m (.blk w.heap.size o::own) w':=by
 have c:=h.grow (w':=w') e (λb g=>by grind)
 refine⟨c.1,?_,?_⟩
 .intro p a
  rcases jG.1 a with rfl|a
  .exact⟨by rw[f];simp,h.fresh_free⟩
  exact c.2.1 p a
 have a:List.filterMap Piece.block (.blk w.heap.size o::own)=w.heap.size::own.filterMap Piece.block:=rfl
 rw[a,fJ]
 exact⟨λd=>by have:=h.block_lt d;omega,h.2.2⟩
theorem St.tail{m:Mem}{p:Piece}{own:List Piece}{w:World}(h:St m (p::own) w):St m own w:=by
 refine⟨h.1,λq a=>h.2.1 q (jC _ a),?_⟩
 have:=h.2.2
 grind
theorem St.head{m:Mem}{p:Piece}{own:List Piece}{w:World}(h:St m (p::own) w):p.holds m w:=h.2.1 p (jD ..)
theorem St.head_ne{m:Mem}{p:Piece}{own:List Piece}{w:World}(h:St m (p::own) w){b:Nat}(a:p.block=some b):b∉own.filterMap Piece.block:=by
 have:=h.2.2
 grind
theorem St.cons{m:Mem}{p:Piece}{own:List Piece}{w:World}(h:St m own w)(e:p.holds m w)(d:∀b,p.block=some b->b∉own.filterMap Piece.block):St m (p::own) w:=by
 refine⟨h.1,λq c=> ?_,?_⟩
 .rcases jG.1 c with rfl|c
  .exact e
  exact h.2.1 q c
 cases a:p.block with
 |none=>simpa[List.filterMap_cons,a] using h.2.2
 |some b=>simp only[List.filterMap_cons,a,fJ];exact⟨d b a,h.2.2⟩
theorem St.perm{m:Mem}{own own':List Piece}{w:World}(h:St m own w)(a:own.Perm own'):St m own' w:=
 ⟨h.1,λp b=>h.2.1 p (a.mem_iff.2 b),(a.filterMap _).nodup_iff.1 h.2.2⟩
theorem St.front1{m:Mem}{a b:Piece}{own:List Piece}{w:World}(h:St m (a::b::own) w):St m (b::a::own) w:=h.perm (.swap b a own)
theorem St.front2{m:Mem}{a b c:Piece}{own:List Piece}{w:World}(h:St m (a::b::c::own) w):St m (c::a::b::own) w:=
 h.perm ((List.Perm.cons a (.swap c b own)).trans (.swap c a _))
theorem St.front3{m:Mem}{a b c d:Piece}{own:List Piece}{w:World}(h:St m (a::b::c::d::own) w):St m (d::a::b::c::own) w:=
 h.perm (((List.Perm.cons a ((List.Perm.cons b (.swap d c own)).trans (.swap d b _)))).trans (.swap d a _))
theorem St.front4{m:Mem}{a b c d e:Piece}{own:List Piece}{w:World}(h:St m (a::b::c::d::e::own) w):St m (e::a::b::c::d::own) w:=by
 refine h.perm ?_
 have:List.Perm (b::c::d::e::own) (e::b::c::d::own):=(List.Perm.cons b ((List.Perm.cons c (.swap e d own)).trans (.swap e c _))).trans (.swap e b _)
 exact(List.Perm.cons a this).trans (.swap e a _)
theorem St.front5{m:Mem}{p0 p1 p2 p3 p4 p5:Piece}{own:List Piece}{w:World}(h:St m (p0::p1::p2::p3::p4::p5::own) w):St m (p5::p0::p1::p2::p3::p4::own) w:=
 h.perm (kX (a:=p5) (l₁:=[p0,p1,p2,p3,p4]) (l₂:=own))
theorem St.front6{m:Mem}{p0 p1 p2 p3 p4 p5 p6:Piece}{own:List Piece}{w:World}(h:St m (p0::p1::p2::p3::p4::p5::p6::own) w):St m (p6::p0::p1::p2::p3::p4::p5::own) w:=
 h.perm (kX (a:=p6) (l₁:=[p0,p1,p2,p3,p4,p5]) (l₂:=own))
theorem St.front7{m:Mem}{p0 p1 p2 p3 p4 p5 p6 p7:Piece}{own:List Piece}{w:World}(h:St m (p0::p1::p2::p3::p4::p5::p6::p7::own) w):St m (p7::p0::p1::p2::p3::p4::p5::p6::own) w:=
 h.perm (kX (a:=p7) (l₁:=[p0,p1,p2,p3,p4,p5,p6]) (l₂:=own))
theorem St.front8{m:Mem}{p0 p1 p2 p3 p4 p5 p6 p7 p8:Piece}{own:List Piece}{w:World}(h:St m (p0::p1::p2::p3::p4::p5::p6::p7::p8::own) w):St m (p8::p0::p1::p2::p3::p4::p5::p6::p7::own) w:=
 h.perm (kX (a:=p8) (l₁:=[p0,p1,p2,p3,p4,p5,p6,p7]) (l₂:=own))
theorem St.front9{m:Mem}{p0 p1 p2 p3 p4 p5 p6 p7 p8 p9:Piece}{own:List Piece}{w:World}(h:St m (p0::p1::p2::p3::p4::p5::p6::p7::p8::p9::own) w):St m (p9::p0::p1::p2::p3::p4::p5::p6::p7::p8::own) w:=
 h.perm (kX (a:=p9) (l₁:=[p0,p1,p2,p3,p4,p5,p6,p7,p8]) (l₂:=own))
theorem St.front10{m:Mem}{p0 p1 p2 p3 p4 p5 p6 p7 p8 p9 p10:Piece}{own:List Piece}{w:World}(h:St m (p0::p1::p2::p3::p4::p5::p6::p7::p8::p9::p10::own) w):St m (p10::p0::p1::p2::p3::p4::p5::p6::p7::p8::p9::own) w:=
 h.perm (kX (a:=p10) (l₁:=[p0,p1,p2,p3,p4,p5,p6,p7,p8,p9]) (l₂:=own))
theorem St.front11{m:Mem}{p0 p1 p2 p3 p4 p5 p6 p7 p8 p9 p10 p11:Piece}{own:List Piece}{w:World}(h:St m (p0::p1::p2::p3::p4::p5::p6::p7::p8::p9::p10::p11::own) w):St m (p11::p0::p1::p2::p3::p4::p5::p6::p7::p8::p9::p10::own) w:=
 h.perm (kX (a:=p11) (l₁:=[p0,p1,p2,p3,p4,p5,p6,p7,p8,p9,p10]) (l₂:=own))
theorem St.front12{m:Mem}{p0 p1 p2 p3 p4 p5 p6 p7 p8 p9 p10 p11 p12:Piece}{own:List Piece}{w:World}(h:St m (p0::p1::p2::p3::p4::p5::p6::p7::p8::p9::p10::p11::p12::own) w):St m (p12::p0::p1::p2::p3::p4::p5::p6::p7::p8::p9::p10::p11::own) w:=
 h.perm (kX (a:=p12) (l₁:=[p0,p1,p2,p3,p4,p5,p6,p7,p8,p9,p10,p11]) (l₂:=own))
theorem St.front13{m:Mem}{p0 p1 p2 p3 p4 p5 p6 p7 p8 p9 p10 p11 p12 p13:Piece}{own:List Piece}{w:World}(h:St m (p0::p1::p2::p3::p4::p5::p6::p7::p8::p9::p10::p11::p12::p13::own) w):St m (p13::p0::p1::p2::p3::p4::p5::p6::p7::p8::p9::p10::p11::p12::own) w:=
 h.perm (kX (a:=p13) (l₁:=[p0,p1,p2,p3,p4,p5,p6,p7,p8,p9,p10,p11,p12]) (l₂:=own))
theorem St.set{m:Mem}{own:List Piece}{w w':World}{b:Nat}{o o':Obj}(h:St m (.blk b o::own) w)(r:Step w w')(n:w'.heap[b]? =some o')
  (g:∀k,k<w.heap.size->k≠b->w'.heap[k]? =w.heap[k]?):St m (.blk b o'::own) w':=by
 have f:=h.head
 have l:=h.head_ne (b:=b) rfl
 have a:=h.tail
 refine St.cons ⟨a.1.keep r λk ⟨x,s⟩ q=>g k (tP s) (λe=>q (e▸f.2)),λp d=>Piece.holds_keep (a.2.1 p d) λk c=>g k (Piece.holds_lt (a.2.1 p d) c) (λe=>l (TK.2 ⟨p,d,e▸c⟩)),a.2.2⟩ ⟨n,f.2⟩ ?_
 grind [Piece.block]
def Mem.addCells(m:Mem)(b:Nat)(f:Nat->Option Value):Mem:={m with cell:=λk o=>if k=b then(match m.cell k o with|some v=>some v|none=>f o) else m.cell k o}
theorem Mem.le_addCells(m:Mem)(b:Nat)(f:Nat->Option Value):m.le (m.addCells b f):=by
 refine⟨λk o v h=> ?_,λ_ _ h=>h,rfl⟩
 grind [Mem.addCells]
theorem Piece.holds_addCells{m:Mem}{w:World}{p:Piece}{b:Nat}{f:Nat->Option Value}(h:p.holds m w)(d:p.block≠some b):p.holds (m.addCells b f) w:=by
 cases p with
 |blk c o=>
  have:c≠b:=λe=>d (by grind [Piece.block])
  exact⟨h.1,λo=>by simp[Mem.addCells,this,h.2.1 o],h.2.2⟩
 |room a n cap e sz=>
  cases a with
  |none=>exact h
  |some q=>
   have:q.block≠b:=λe=>d (by grind [Piece.block])
   obtain⟨g,k,l,r,s,u,t⟩:=h
   exact⟨g,k,l,r,s,λo v=>by grind [Mem.addCells],t⟩
theorem St.addCells{m:Mem}{own:List Piece}{w:World}(h:St m own w){b:Nat}{f:Nat->Option Value}(l:b∉own.filterMap Piece.block)
  (n:∀o v,f o=some v->∃c e fr,w.heap[b]? =some (.cells c e fr)/\c[o]? =some v):St (m.addCells b f) own w:=by
 refine⟨⟨?_,h.1.2⟩,λp g=>Piece.holds_addCells (h.2.1 p g) λe=>l (TK.2 ⟨p,g,e⟩),h.2.2⟩
 intro k o v a
 simp only[Mem.addCells] at a
 split at a
 .rename_i hk;subst hk
  cases d:m.cell k o with
  |some u=>simp[d] at a;subst a;exact h.1.1 _ _ _ d
  |none=>grind
 exact h.1.1 _ _ _ a
def MRow(m:Mem)(b o:Nat)(cs:List Value):Prop:=∀j v,cs[j]? =some v->m.cell b (o+j)=some v
theorem MRow.mono{m m':Mem}{b o:Nat}{cs:List Value}(h:MRow m b o cs)(a:m.le m'):MRow m' b o cs:=λj v c=>a.1 _ _ _ (h j v c)
theorem MRow.drop{m:Mem}{b o:Nat}{cs:List Value}(h:MRow m b o cs)(k:Nat):MRow m b (o+k) (cs.drop k):=by
 intro j v a
 have:=h (k+j) v (by grind)
 grind
structure Codec(α:Type) where
 sz:Nat
 pos:0<sz
 rep:Mem->α->List Value->Prop
 len:∀m x cs,rep m x cs->cs.length=sz
 one:∀m x cs,rep m x cs->∀v∈cs,v.oneCell'=true
 mono:∀m m' x cs,m.le m'->rep m x cs->rep m' x cs
def RepS{α:Type}(c:Codec α)(m:Mem)(a:Option Addr)(cap:Nat)(l:List α):Prop:=
 l.length<=cap/\cap<=maxLen/\match a with
  |none=>cap=0
  |some p=>(p.spot=none\/l=[])/\∀i x,l[i]? =some x->∃cs,c.rep m x cs/\MRow m p.block (p.off+i*c.sz) cs
theorem RepS.mono{α:Type}{c:Codec α}{m m':Mem}{a:Option Addr}{cap:Nat}{l:List α}(h:RepS c m a cap l)(b:m.le m'):RepS c m' a cap l:=by
 refine⟨h.1,h.2.1,?_⟩
 cases a with
 |none=>exact h.2.2
 |some p=>
  refine⟨h.2.2.1,λi x f=> ?_⟩
  obtain⟨cs,d,e⟩:=h.2.2.2 i x f
  exact⟨cs,c.mono _ _ _ _ b d,e.mono b⟩
theorem RepS.nil{α:Type}(c:Codec α)(m:Mem):RepS c m none 0 []:=⟨jH _,jQ _,rfl⟩
theorem RepS.cells{α:Type}{c:Codec α}{m:Mem}{p:Addr}{cap:Nat}{l:List α}(h:RepS c m (some p) cap l):
  ∃cs,cs.length=l.length*c.sz/\(∀v∈cs,v.oneCell'=true)/\MRow m p.block p.off cs/\∀i x,l[i]? =some x->c.rep m x ((cs.drop (i*c.sz)).take c.sz):=by
 have key:∀(l:List α) (o:Nat),(∀i x,l[i]? =some x->∃cs,c.rep m x cs/\MRow m p.block (o+i*c.sz) cs)->
   ∃cs,cs.length=l.length*c.sz/\(∀v∈cs,v.oneCell'=true)/\MRow m p.block o cs/\∀i x,l[i]? =some x->c.rep m x ((cs.drop (i*c.sz)).take c.sz):=by
  intro l
  induction l with
  |nil=>intro o _;exact⟨[],by simp,by simp,λj v h=>by simp at h,λi x h=>by simp at h⟩
  |cons y l u=>
   intro o h
   obtain⟨k,q,t⟩:=h 0 y rfl
   have n:=c.len _ _ _ q
   obtain⟨f,z,A,r,s⟩:=u (o+c.sz) (λi x g=>by
    obtain⟨cs,a,b⟩:=h (i+1) x (by simpa using g)
    grind)
   refine⟨k++f,by grind,?_,?_,?_⟩
   .intro v d
    rcases kJ.1 d with d|d
    .exact c.one _ _ _ q v d
    grind
   .intro j v d
    rw[List.getElem?_append] at d
    split at d
    .simpa using t j v d
    rename_i hj
    have:=r _ v d
    grind
   intro i x g
   cases i with
   |zero=>grind
   |succ i=>
    have:=s i x (by simpa using g)
    have e:(k++f).drop ((i+1)*c.sz)=f.drop (i*c.sz):=by
     rw[fU,jZ (by grind),kT,n,kN,hR,fY]
    grind
 exact key l p.off (h.2.2.2)
def wG(P:Program)(t:TypeId):Option (TypeId×Nat×Nat×Nat):=
 match P.underlying t with
 |some (.slice e)=>match P.info? e with
  |some i=>match i.zero with
   |some z=>some (e,i.size,i.bytes,z.cells.size)
   |none=>none
  |none=>none
 |_=>none
theorem XC{P:Program}{t e sz by_ zs:Nat}(h:wG P t=some (e,sz,by_,zs)):
  P.underlying t=some (.slice e)/\∃i z,P.info? e=some i/\i.zero=some z/\i.size=sz/\i.bytes=by_/\z.cells.size=zs:=by
 grind [wG]
def wV(P:Program)(u e:TypeId):Prop:=P.underlying u=some (.slice e)\/P.underlying u=some .string
theorem wM(g o j:Nat):(⟨g,o,none⟩:Addr).add j=⟨g,o+j,none⟩:=by grind [Go.Addr.add]
theorem GL{p:Addr}(a:p.spot=none)(j:Nat):p.add j=⟨p.block,p.off+j,none⟩:=by
 obtain⟨b,o,s⟩:=p
 grind [wM]
variable {P:Program}
def PC(P:Program)(w:World)(sz:Nat)(x:Value)(n:Nat)(news:List Value):Prop:=
 (Builtin.lenOf x).run P w= .ok n w/\(Builtin.firstCells sz n x).run P w= .ok news.toArray w/\news.length=n*sz/\∀v∈news,v.oneCell'=true
theorem Fw(w:World)(t u ty e:TypeId)(i:TypeInfo)(p:P.underlying t=some (.slice e))(q:wV P u e)(hi:P.info? e=some i){x:Value}{n:Nat}{news:List Value}
  (f:PC P w i.size x n news) (g sLen sCap:Nat) (cur:Array Value) (o:w.heap[g]? =some (.cells cur e (0,0))) (a:sLen+n<=sCap) (d:sLen*i.size+news.length<=cur.size):
  (Builtin.append_ #[t,u] ty #[.slice (some ⟨g,0,none⟩) sLen sCap,x]).run P w=
   .ok (.slice (some ⟨g,0,none⟩) (sLen+n) sCap) (w.setRow g (cur.toList.take (sLen*i.size)++news++cur.toList.drop (sLen*i.size+news.length)).toArray):=by
 obtain⟨h,k,r,l⟩:=f
 have c:=run_storeCells_at P g (sLen*i.size) e news 0 cur w o (by simpa using d) l
 simp only[fB] at c
 rcases q with b|b<;>simp[Builtin.append_,run_underlying p,run_underlying b,sizeOf,typeInfo,hi,h,a,k,wM,c]
theorem Fc(w:World)(t u ty e:TypeId)(i:TypeInfo)(f:P.underlying t=some (.slice e))(g:wV P u e)(hi:P.info? e=some i){x:Value}{news:List Value}
  (b:PC P w i.size x 0 news):(Builtin.append_ #[t,u] ty #[.slice none 0 0,x]).run P w= .ok (.slice none 0 0) w:=by
 obtain⟨c,d,h,k⟩:=b
 rcases g with a|a<;>simp[Builtin.append_,run_underlying f,run_underlying a,sizeOf,typeInfo,hi,c,d]
theorem Fp(w:World)(t u ty e:TypeId)(i:TypeInfo)(z:Value)(r:P.underlying t=some (.slice e))(s:wV P u e)(hi:P.info? e=some i)(v:i.zero=some z){x:Value}{n:Nat}{news:List Value}
  (f:PC P w i.size x n news) (base:Option Addr) (sLen sCap:Nat) (olds:List Value)
  (d:∀w':World,Step w w'->w'.heap=w.heap->(Builtin.firstCells i.size sLen (.slice base sLen sCap)).run P w'= .ok olds.toArray w')
  (hsrc':∀w':World,Step w w'->w'.heap=w.heap->(Builtin.firstCells i.size n x).run P w'= .ok news.toArray w')
  (l:sCap<sLen+n) (h:(sLen+n)*i.bytes<=140737488355328) (y:sLen+n<=maxLen):
  (Builtin.append_ #[t,u] ty #[.slice base sLen sCap,x]).run P w=
   .ok (.slice (some ⟨w.heap.size,0,none⟩) (sLen+n) (grownCap w (sLen+n) sCap e))
    (w.drew.alloc (.cells ((olds++news).toArray++Builtin.zeroCells z.cells (grownCap w (sLen+n) sCap e-(sLen+n))) e)):=by
 obtain⟨g,A,B,D⟩:=f
 have o:¬(sLen+n<=sCap):=by omega
 have h63':¬(9223372036854775807<(sLen:Int)+(n:Int)):=by grind [Go.maxLen]
 have k:=growslice_fits (need:=sLen+n) (old:=sCap) (bytes:=i.bytes) l h
 have hfit':¬(281474976710656<Builtin.nextslicecap (sLen+n) sCap*i.bytes):=by omega
 have c:IntKind.i64.max=9223372036854775807:=by decide
 have p:=d w.drew ⟨⟨rfl,rfl⟩,rfl,mQ⟩ rfl
 have q:=hsrc' w.drew ⟨⟨rfl,rfl⟩,rfl,mQ⟩ rfl
 have a:(Question.appendCap (sLen+n) sCap e).forced=false:=rfl
 rcases s with b|b<;>
  simp[Builtin.append_,run_underlying r,run_underlying b,sizeOf,typeInfo,zeroValue,hi,v,g,o,h63',hfit',c,a,p,q,newRow,grownCap]<;>(congr 2;apply Array.ext';simp)
def dS{α:Type}(by_:Nat)(l k:List α):Option (List α):=if(l.length+k.length)*by_<=140737488355328/\l.length+k.length<=maxLen then some (l++k) else none
theorem RepS.of_cells{α:Type}{c:Codec α}{m:Mem}{b cap:Nat}{l:List α}{cs:List Value}(d:l.length<=cap)(e:cap<=maxLen)
  (f:∀i x,l[i]? =some x->c.rep m x ((cs.drop (i*c.sz)).take c.sz)) (g:MRow m b 0 cs):RepS c m (some ⟨b,0,none⟩) cap l:=by
 refine⟨d,e,.inl rfl,λi x h=>⟨_,f i x h,?_⟩⟩
 intro j v a
 rw[List.getElem?_take] at a
 split at a
 .rw[List.getElem?_drop] at a
  have:=g _ v a
  grind
 cases a
theorem RepS.cellsA{α:Type}{c:Codec α}{m:Mem}{a:Option Addr}{cap:Nat}{l:List α}(h:RepS c m a cap l):
  ∃cs,cs.length=l.length*c.sz/\(∀v∈cs,v.oneCell'=true)/\(∀p,a=some p->MRow m p.block p.off cs)/\∀i x,l[i]? =some x->c.rep m x ((cs.drop (i*c.sz)).take c.sz):=by
 cases a with
 |none=>
  obtain⟨b,_,d⟩:=h
  simp_all
 |some p=>
  obtain⟨cs,b,e,d,f⟩:=h.cells
  grind
theorem Inv.cell{m:Mem}{w:World}(h:Inv m w){b o:Nat}{v:Value}(a:m.cell b o=some v):w.cell? ⟨b,o,none⟩=some v:=by
 obtain⟨c,e,f,d,g⟩:=h.1 b o v a
 grind [Go.World.cell?]
theorem Mz{m:Mem}{w:World}(hi:Inv m w){a:Option Addr}{n cap sz:Nat}{cs:List Value}(e:cs.length=n*sz)(f:∀p,a=some p->(p.spot=none\/cs=[])/\MRow m p.block p.off cs)(d:a=none->cs=[]):
  (Builtin.firstCells sz n (.slice a n cap)).run P w= .ok cs.toArray w:=by
 cases a with
 |none=>rw[d rfl];simp[Builtin.firstCells]
 |some p=>
  obtain⟨b,c⟩:=f p rfl
  exact run_firstCells_some w sz n p n cap cs e λj v g=>by
   rcases b with b|b
   .rw[GL b];exact hi.cell (c j v g)
   grind
theorem RepS.none_nil{α:Type}{c:Codec α}{m:Mem}{cap:Nat}{l:List α}(h:RepS c m none cap l):l=[]/\cap=0:=by
 obtain⟨a,_,b⟩:=h
 simp_all
theorem RepS.spot{α:Type}{c:Codec α}{m:Mem}{p:Addr}{cap:Nat}{l:List α}(h:RepS c m (some p) cap l)(a:l≠[]):p.spot=none:=h.2.2.1.resolve_right a
def Gives{α:Type}(P:Program)(c:Codec α)(m:Mem)(x:Value)(k:List α):Prop:=
 ∃cs,(∀w:World,Inv m w->PC P w c.sz x k.length cs)/\(∀i y,k[i]? =some y->c.rep m y ((cs.drop (i*c.sz)).take c.sz))
theorem RepS.src{α:Type}{c:Codec α}{m:Mem}{a:Option Addr}{cap:Nat}{l:List α}(h:RepS c m a cap l):Gives P c m (.slice a l.length cap) l:=by
 obtain⟨cs,b,d,f,g⟩:=h.cellsA
 refine⟨cs,λw hi=>⟨by simp[Builtin.lenOf],Mz hi b (λp n=> ?_) (λk=> ?_),b,d⟩,g⟩
 .subst n;exact⟨h.2.2.1.imp id (λe=>by simp_all),f p rfl⟩
 subst k;obtain⟨rfl,rfl⟩:=h.none_nil;simp_all
theorem qEc{α:Type}{c:Codec α}{m:Mem}{l k:List α}{a b:List Value}(e:a.length=l.length*c.sz)
  (g:∀i x,l[i]? =some x->c.rep m x ((a.drop (i*c.sz)).take c.sz)) (h:∀i x,k[i]? =some x->c.rep m x ((b.drop (i*c.sz)).take c.sz)):
  ∀i x,(l++k)[i]? =some x->c.rep m x (((a++b).drop (i*c.sz)).take c.sz):=by
 intro i x d
 rw[List.getElem?_append] at d
 split at d
 .rename_i hi
  have f:i*c.sz+c.sz<=a.length:=by
   rw[e]
   calc i*c.sz+c.sz=(i+1)*c.sz:=by grind
    _<=l.length*c.sz:=kD _ hi
  grind
 grind [Nat.mul_le_mul_right,List.drop_append,List.drop_eq_nil_of_le,Nat.sub_mul]
theorem Ms{m:Mem}{w:World}(hi:Inv m w){b:Nat}{cs:List Value}(a:MRow m b 0 cs){cur:Array Value}{e:TypeId}{f:Nat×Nat}(h:w.heap[b]? =some (.cells cur e f)):cur.toList.take cs.length=cs:=by
 apply fN
 intro j
 rw[List.getElem?_take]
 by_cases hj:j<cs.length
 .rw[jB hj]
  have:=a j cs[j] (by simp[hj])
  obtain⟨c,e',f',d,g⟩:=hi.1 _ _ _ this
  grind
 grind
theorem St.know{m:Mem}{own:List Piece}{w:World}{b:Nat}{cs:List Value}{cur:Array Value}{e:TypeId}{f:Nat×Nat}(h:St m own w)(a:b∉own.filterMap Piece.block)
  (l:w.heap[b]? =some (.cells cur e f)) (d:cur.toList.take cs.length=cs) (c:∀o v,m.cell b o=some v->cs[o]? =some v):
  ∃m',m.le m'/\St m' own w/\MRow m' b 0 cs/\(∀o,cs.length<=o->m'.cell b o=none)/\m'.obj=m.obj/\∀k,k≠b->m'.cell k=m.cell k:=by
 refine⟨m.addCells b (λo=>cs[o]?),m.le_addCells b _,h.addCells a ?_,?_,?_,rfl,?_⟩
 .grind
 .intro j v g
  grind [Mem.addCells]
 .grind [Mem.addCells]
 grind [Mem.addCells]
theorem Yz{α:Type}{c:Codec α}{m:Mem}{own:List Piece}{w:World}{t u ty e by_:Nat}(a6:wG P t=some (e,c.sz,by_,c.sz))(hu:wV P u e)
  {a:Option Addr} {cap:Nat} {l k r:List α} {x:Value} (G:St m (.room a l.length cap e c.sz::own) w) (hr:RepS c m a cap l)
  (hx:Gives P c m x k)
  (E:dS by_ l k=some r):
  ∃a' cap' m' w',(Builtin.append_ #[t,u] ty #[.slice a l.length cap,x]).run P w= .ok (.slice a' r.length cap') w'/\m.le m'/\St m' (.room a' r.length cap' e c.sz::own) w'/\RepS c m' a' cap' r:=by
 obtain⟨ht,i,z,hi,hz,V,b9,b8⟩:=XC a6
 unfold dS at E
 split at E
 .rename_i a1
  simp only[jM] at E
  subst E
  obtain⟨a1,a9⟩:=a1
  have h:=G.inv
  obtain⟨f,U,a8⟩:=hx
  have a4:=U w h
  obtain⟨d,a2,c0,b5,a7⟩:=hr.cellsA
  have b4:f.length=k.length*c.sz:=a4.2.2.1
  have b1:(d++f).length=(l++k).length*c.sz:=by grind
  have R:∀m',m.le m'->∀i y,(l++k)[i]? =some y->c.rep m' y (((d++f).drop (i*c.sz)).take c.sz):=λm' A=>
   qEc a2 (λi y hy=>c.mono _ _ _ _ A (a7 i y hy)) (λi y hy=>c.mono _ _ _ _ A (a8 i y hy))
  have D:=G.tail
  -- a new block
  have out:cap<l.length+k.length->(∀w':World,Step w w'->w'.heap=w.heap->(Builtin.firstCells i.size l.length (.slice a l.length cap)).run P w'= .ok d.toArray w')->
    ∃a' cap' m' w',(Builtin.append_ #[t,u] ty #[.slice a l.length cap,x]).run P w= .ok (.slice a' (l++k).length cap') w'/\m.le m'/\St m' (.room a' (l++k).length cap' e c.sz::own) w'/\RepS c m' a' cap' (l++k):=by
   intro S b2
   have hinv':∀w':World,Step w w'->w'.heap=w.heap->Inv m w':=λw' E hw=>h.keep E (λb _ _=>by rw[hw])
   have s:=Fp w t u ty e i z ht hu hi hz (n:=k.length) (news:=f) (by rw[V];exact a4) a l.length cap d b2
    (λw' E hw=>by rw[V];exact(U w' (hinv' w' E hw)).2.1) S (by grind) a9
   generalize hgc:grownCap w (l.length+k.length) cap e=gc at s
   have M:l.length+k.length<=gc:=hgc▸grownCap_ge _ _ _ _
   have a5:gc<=maxLen:=hgc▸grownCap_le_maxLen _ _ _ _ a9
   generalize hcur:(d++f).toArray++Builtin.zeroCells z.cells (gc-(l.length+k.length))=cur at s
   have a0:cur.size=gc*c.sz:=by
    rw[<-hcur]
    simp only[Array.size_append,gQ,size_zeroCells,b8,b1,jP,<-kN]
    congr 1;omega
   have B:=D.alloc (w':=w.drew.alloc (.cells cur e)) (o:= .cells cur e) ⟨⟨rfl,rfl⟩,rfl,mQ⟩ rfl
   have b0:cur.toList.take (d++f).length=d++f:=by grind
   have F:=D.fresh_free
   obtain⟨m',A,hst',K,b7,a3,H⟩:=St.know (b:=w.heap.size) B.tail (B.head_ne rfl) B.head.1 b0 (λo v Z=>by rw[F.1 o] at Z;cases Z)
   refine⟨some ⟨w.heap.size,0,none⟩,gc,m',w.drew.alloc (.cells cur e),by grind,A,?_,RepS.of_cells (by simpa using M) a5 (R m' A) K⟩
   refine hst'.cons ⟨rfl,rfl,by simpa using M,a5,⟨cur,B.head.1,a0⟩,?_,?_⟩ ?_
   .grind
   .rw[a3];exact F.2
   intro b Y
   simp only[Piece.block,gJ,jM] at Y
   subst Y
   exact B.head_ne rfl
  cases a with
  |none=>
   obtain⟨rfl,rfl⟩:=hr.none_nil
   have B:d=[]:=kF (by simpa using a2)
   subst B
   by_cases hk:k.length=0
   .have F:k=[]:=kF hk
    subst F
    refine⟨none,0,m,w,?_,m.le_refl,G,hr⟩
    grind [Fc]
   exact out ah (λw' _ _=>by simp[Builtin.firstCells])
  |some p=>
   obtain⟨h1,h2,h3,h4,⟨cur,h5,h6⟩,h7,h8⟩:=G.head
   obtain⟨g,off,spot⟩:=p
   simp only at h1 h2 h5 h7 h8
   subst h1;subst h2
   have B:=b5 _ rfl
   simp only at B
   by_cases hroom:l.length+k.length<=cap
   .have a5:l.length*i.size+f.length<=cur.size:=by rw[b4,h6,V,<-kN];exact kD _ hroom
    have s:=Fw w t u ty e i ht hu hi (x:=x) (n:=k.length) (news:=f) (by grind) g l.length cap cur h5 hroom a5
    rw[V,<-a2] at s
    rw[Ms h B h5] at s
    generalize hw':w.setRow g (d++f++cur.toList.drop (d.length+f.length)).toArray=w' at s
    have F:w'.heap[g]? =some (.cells (d++f++cur.toList.drop (d.length+f.length)).toArray e (0,0)):=by grind [Go.setRow_heap]
    have H:∀b,b≠g->w'.heap[b]? =w.heap[b]? :=λb Y=>by grind [Go.setRow_other]
    have a0:(d++f++cur.toList.drop (d.length+f.length)).toArray.size=cap*c.sz:=by
     grind
    have b6:=G.head_ne (b:=g) rfl
    have b2:St m own w':=by
     refine⟨?_,λq hq=>Piece.holds_keep (D.2.1 q hq) (λb Y=>H b ?_),D.2.2⟩
     .refine⟨?_,?_,h.2.2.trans (by rw[<-hw'];exact⟨⟨rfl,rfl⟩,rfl,mQ⟩)⟩
      .intro b o v Z
       by_cases Y:b=g
       .subst Y
        refine⟨_,e,(0,0),F,?_⟩
        by_cases ho:o<l.length*c.sz
        .obtain⟨cc,e',f',M,b3⟩:=h.1 b o v Z
         rw[h5] at M
         simp only[jM,Obj.cells.injEq] at M
         obtain⟨rfl,_,_⟩:=M
         have S:o<d.length:=by grind
         have b0:=Ms h B h5
         grind
        grind
       obtain⟨cc,e',f',M,b3⟩:=h.1 b o v Z
       grind
      intro b y hy
      have:b≠g:=by grind
      rw[H b this];exact h.2.1 b y hy
     grind
    obtain⟨m',A,hst',K,b7,a3,_⟩:=St.know (b:=g) (cs:=d++f) b2 b6 F (by grind) (λo v Z=>by
     by_cases ho:o<l.length*c.sz
     .have S:o<d.length:=by grind
      have:=B o d[o] (by simp[S])
      grind
     grind)
    refine⟨some ⟨g,0,none⟩,cap,m',w',by grind,A,?_,RepS.of_cells (by simpa using hroom) h4 (R m' A) K⟩
    refine hst'.cons ⟨rfl,rfl,by simpa using hroom,h4,⟨_,F,a0⟩,?_,?_⟩ ?_
    .grind
    .grind
    grind [Piece.block]
   exact out aa (λw' E hw=>by
    have hinv':Inv m w':=h.keep E (λb _ _=>by rw[hw])
    grind [Mz])
 cases E
def aJ(k:IntKind):Codec Int where
 sz:=1
 pos:=Nat.one_pos
 rep _ x cs:=cs=[.int k x]
 len:=by grind
 one:=by rintro _ _ _ rfl v a;simp at a;subst a;rfl
 mono:=λ_ _ _ _ _ h=>h
def cU8:Codec UInt8 where
 sz:=1
 pos:=Nat.one_pos
 rep _ x cs:=cs=[.int .u8 (x.toNat:Int)]
 len:=by grind
 one:=by rintro _ _ _ rfl v a;simp at a;subst a;rfl
 mono:=λ_ _ _ _ _ h=>h
def Sa:Codec Bool where
 sz:=1
 pos:=Nat.one_pos
 rep _ x cs:=cs=[.bool x]
 len:=by grind
 one:=by rintro _ _ _ rfl v a;simp at a;subst a;rfl
 mono:=λ_ _ _ _ _ h=>h
def aD:Codec BA where
 sz:=1
 pos:=Nat.one_pos
 rep _ x cs:=cs=[.string x]
 len:=by grind
 one:=by rintro _ _ _ rfl v a;simp at a;subst a;rfl
 mono:=λ_ _ _ _ _ h=>h
def mU{α β:Type}(a:Codec α)(b:Codec β):Codec (α×β) where
 sz:=a.sz+b.sz
 pos:=fH a.pos (Nat.le_add_right ..)
 rep m x cs:=∃c d,cs=c++d/\a.rep m x.1 c/\b.rep m x.2 d
 len:=by rintro m x cs ⟨c,d,rfl,e,f⟩;rw[jP,a.len _ _ _ e,b.len _ _ _ f]
 one:=by
  rintro m x cs ⟨c,d,rfl,e,f⟩ v g
  rcases kJ.1 g with g|g
  .exact a.one _ _ _ e v g
  exact b.one _ _ _ f v g
 mono:=by rintro m m' x cs g ⟨c,d,rfl,e,f⟩;exact⟨c,d,rfl,a.mono _ _ _ _ g e,b.mono _ _ _ _ g f⟩
def xN{α:Type}(c:Codec α):Codec (List α) where
 sz:=1
 pos:=Nat.one_pos
 rep m l cs:=∃a cap,cs=[.slice a l.length cap]/\RepS c m a cap l
 len:=by grind
 one:=by rintro _ _ _ ⟨a,cap,rfl,_⟩ v b;simp at b;subst b;rfl
 mono:=by rintro m m' x cs b ⟨a,cap,rfl,h⟩;exact⟨a,cap,rfl,h.mono b⟩
theorem sC{α:Type}{c:Codec α}{m:Mem}{a:Option Addr}{cap:Nat}{l:List α}(h:RepS c m a cap l):(xN c).rep m l [.slice a l.length cap]:=⟨a,cap,rfl,h⟩
def RepAll{α:Type}(c:Codec α)(m:Mem):List α->List Value->Prop
 |[],cs=>cs=[]
 |x::l,cs=>∃a b,cs=a++b/\c.rep m x a/\RepAll c m l b
theorem RepAll.len{α:Type}{c:Codec α}{m:Mem}:∀{l:List α} {cs:List Value},RepAll c m l cs->cs.length=l.length*c.sz
 |[],cs,h=>by grind [RepAll]
 |x::l,cs,h=>by
  obtain⟨d,e,rfl,a,b⟩:=h
  rw[jP,c.len _ _ _ a,b.len,jS,kN,hR,Nat.add_comm]
theorem RepAll.rep{α:Type}{c:Codec α}{m:Mem}:∀{l:List α} {cs:List Value},RepAll c m l cs->∀i x,l[i]? =some x->c.rep m x ((cs.drop (i*c.sz)).take c.sz)
 |[],_,_=>by simp
 |y::l,cs,h=>by
  obtain⟨b,a,rfl,d,f⟩:=h
  intro i x k
  have g:=c.len _ _ _ d
  cases i with
  |zero=>grind
  |succ i=>
   have e:(b++a).drop ((i+1)*c.sz)=a.drop (i*c.sz):=by
    rw[fU,jZ (by grind),kT,g,kN,hR,fY]
   rw[e];exact f.rep i x (by simpa using k)
def qK(P:Program)(t:TypeId)(cs:List Value):Option Value:=
 match P.underlying t with
 |some (.struct _)|some (.array _ _)=>match P.info? t with
  |some i=>bif Nat.ble i.size cs.length then some (.agg (cs.take i.size).toArray) else none
  |none=>none
 |some _=>cs.head?
 |none=>none
def UQ:TypeDesc->Bool
 | .struct _=>true
 | .array _ _=>true
 |_=>false
theorem AE{P:Program}{w:World}{t:TypeId}{b o:Nat}{cs:List Value}{v:Value}(g:∀j u,cs[j]? =some u->w.cell? ⟨b,o+j,none⟩=some u)(h:qK P t cs=some v):
  (loadVar t ⟨b,o,none⟩).run P w= .ok v w:=by
 have agg:∀d,P.underlying t=some d->(isAgg t).run P w= .ok (UQ d) w:=by
  intro d a;unfold isAgg;cases d<;>simp[run_underlying a,UQ]
 have big:∀d,P.underlying t=some d->UQ d=true->(match P.info? t with
  |some i=>bif Nat.ble i.size cs.length then some (Value.agg (cs.take i.size).toArray) else none
  |none=>none)=some v->(loadVar t ⟨b,o,none⟩).run P w= .ok v w:=by
  intro d a f h
  cases hi:P.info? t with
  |none=>grind
  |some i=>
   simp only[hi] at h
   cases hle:Nat.ble i.size cs.length with
   |false=>grind
   |true=>
    simp[hle] at h
    subst h
    have hle':=gK hle
    have e:=run_loadCells_list (P:=P) w ⟨b,o,none⟩ (cs.take i.size) (λj u k=>by
     grind [wM])
    have:(cs.take i.size).length=i.size:=by simp;omega
    rw[this] at e
    have c:=agg d a
    rw[f] at c
    simp[loadVar,c,sizeOf,typeInfo,hi,e]
 unfold qK at h
 split at h
 .rename_i a;exact big _ a rfl h
 .rename_i a;exact big _ a rfl h
 .rename_i d hn1 hn2 a
  have c:=agg d a
  have e:UQ d=false:=by
   cases d<;>first|rfl|exact(hn1 _ rfl).elim|exact(hn2 _ _ rfl).elim
  rw[e] at c
  have f:cs[0]? =some v:=by grind [List.head?_eq_getElem?]
  have:=g 0 v f
  simp only[fB] at this
  simp[loadVar,c,this]
 cases h
variable {n:Fr} {ops:Array Oper} {Q:Exit->Act->World->Prop} {i d:Nat} {L:bO} {w:World} {m:Mem} {own:List Piece} {N:bO->World->Prop}
theorem cT{L:bO}{x:Operand}{v:Value}(h:bS L x=some v):nX L x=v:=by simp[nX,h]
theorem CH{t:TypeId}{x:Operand}{b o:Nat}{cs:List Value}(v:Value)(f:dH ops L i=some (some d,.load t x))(c:Nat.blt d n=true)
  (r:bS L x=some (.pointer (some ⟨b,o,none⟩))) (a:St m own w) (k:MRow m b o cs) (p:qK P t cs=some v)
  (h:N ((d,v)::L) w):dZ P n ops Q i N L w:=by
 refine lO f c (λq g=> ?_) h
 have e:=AE (P:=P) (w:=w) (t:=t) (b:=b) (o:=o) (cs:=cs) (v:=v) (λj u l=>a.inv.cell (k j u l)) p
 simp[execOp,g,Instr.loadAt,cT r,Instr.sureAddr,e]
theorem Yn{t e:TypeId}{x:Operand}{b o:Nat}{c:Array Value}{f:Nat×Nat}(v:Value)(k:dH ops L i=some (some d,.load t x))(a:Nat.blt d n=true)
  (s:bS L x=some (.pointer (some ⟨b,o,none⟩))) (l:Piece.holds m w (.blk b (.cells c e f))) (r:qK P t (c.toList.drop o)=some v)
  (h:N ((d,v)::L) w):dZ P n ops Q i N L w:=by
 refine lO k a (λq p=> ?_) h
 have y:=l.1
 have g:=AE (P:=P) (w:=w) (t:=t) (b:=b) (o:=o) (cs:=c.toList.drop o) (v:=v) (λj u z=>by
  grind [Go.World.cell?]) r
 simp[execOp,p,Instr.loadAt,cT s,Instr.sureAddr,g]
def UT:List Value->Bool
 |[]=>true
 |v::l=>v.oneCell'&&UT l
theorem Ig{l:List Value}(h:UT l=true):∀v∈l,v.oneCell'=true:=by
 induction l with
 |nil=>simp
 |cons u l a=>
  grind [UT]
def AM(P:Program)(t:TypeId)(v:Value)(o n:Nat):Bool:=
 match P.info? t with
 |some i=>Nat.beq v.cells.size i.size&&Nat.ble (o+v.cells.size) n&&UT v.cells.toList
 |none=>false
theorem ZI{t e:TypeId}{x y:Operand}{b o:Nat}{c c':Array Value}{v:Value}(s:dH ops L i=some (none,.store t x y))
  (z:bS L x=some (.pointer (some ⟨b,o,none⟩))) (A:bS L y=some v) (f:St m (.blk b (.cells c e (0,0))::own) w) (d:AM P t v o c.size=true)
  (hc':(c.toList.take o++v.cells.toList++c.toList.drop (o+v.cells.toList.length)).toArray=c')
  (h:∀w',St m (.blk b (.cells c' e (0,0))::own) w'->N L w'):dZ P n ops Q i N L w:=by
 unfold AM at d
 cases hi:P.info? t with
 |none=>grind
 |some inf=>
  simp only[hi,jU] at d
  obtain⟨⟨g,l⟩,p⟩:=d
  have h1':=fI g
  have h2':=gK l
  have a:=run_storeCells_at P b o e v.cells.toList 0 c w f.head.1 (by simpa using h2') (Ig p)
  simp only[fB] at a
  rw[hc'] at a
  refine CP s (λq u=> ?_) (h (w.setRow b c') (f.set ⟨⟨rfl,rfl⟩,rfl,mQ⟩ (setRow_heap w b c c' e _ f.head.1) (λk _ r=>setRow_other w b k _ r)))
  simp[execOp,u,Instr.storeAt,cT z,cT A,Instr.sureAddr,storeVar,sizeOf,typeInfo,hi,h1',a]
theorem Gl{e:TypeId}{x:Operand}(v:Value)(f:dH ops L i=some (some d,.box e x))(c:Nat.blt d n=true)(k:bS L x=some v)(a:St m own w)
  (h:∀b w',St m (.blk b (.cells v.cells e (0,0))::own) w'->N ((d,.pointer (some ⟨b,0,none⟩))::L) w'):dZ P n ops Q i N L w:=by
 refine lO (w':=w.alloc (.cells v.cells e)) f c (λq g=> ?_) (h w.heap.size _ (a.alloc ⟨⟨rfl,rfl⟩,rfl,mQ⟩ rfl))
 simp[execOp,g,Instr.box,cT k,newVar,newRow]
theorem St.settle{b:Nat}{c:Array Value}{e:TypeId}{f:Nat×Nat}(h:St m (.blk b (.cells c e f)::own) w):∃m',m.le m'/\St m' own w/\MRow m' b 0 c.toList:=by
 obtain⟨m',d,g,k,_⟩:=St.know (cs:=c.toList) h.tail (h.head_ne rfl) h.head.1 (gI (jH _)) (λo v a=>by rw[h.head.2.1 o] at a;cases a)
 grind
theorem qHw{e:TypeId}{x:Operand}(v:Value)(f:dH ops L i=some (some d,.box e x))(c:Nat.blt d n=true)(k:bS L x=some v)(a:St m own w)
  (h:∀b m' w',m.le m'->St m' own w'->MRow m' b 0 v.cells.toList->N ((d,.pointer (some ⟨b,0,none⟩))::L) w'):dZ P n ops Q i N L w:=by
 refine Gl v f c k a (λb w' g=> ?_)
 obtain⟨m',l,o,p⟩:=g.settle
 grind
def Bs(P:Program)(e:TypeId):Option Value:=(P.info? e).bind (·.zero)
theorem Jz{e:TypeId}(v:Value)(f:dH ops L i=some (some d,.alloc e))(c:Nat.blt d n=true)(k:Bs P e=some v)(a:St m own w)
  (h:∀b w',St m (.blk b (.cells v.cells e (0,0))::own) w'->N ((d,.pointer (some ⟨b,0,none⟩))::L) w'):dZ P n ops Q i N L w:=by
 obtain⟨inf,hi,hz'⟩:=jV.1 k
 refine lO (w':=w.alloc (.cells v.cells e)) f c (λq g=> ?_) (h w.heap.size _ (a.alloc ⟨⟨rfl,rfl⟩,rfl,mQ⟩ rfl))
 simp[execOp,g,Instr.alloc,zeroValue,typeInfo,hi,hz',newVar,newRow]
def aO{α:Type}(l:List α)(i:Int):Option α:=if 0<=i then l[i.toNat]? else none
def nU(P:Program)(t:TypeId):Option (TypeId×Nat):=
 match P.underlying t with
 |some (.slice e)=>(P.info? e).map λi=>(e,i.size)
 |_=>none
theorem wC{t e sz:Nat}(h:nU P t=some (e,sz)):P.underlying t=some (.slice e)/\∃inf,P.info? e=some inf/\inf.size=sz:=by
 unfold nU at h
 split at h
 .rename_i e' he
  cases hi:P.info? e' with
  |none=>grind
  |some inf=>grind
 cases h
theorem qCu{α:Type}{t e:TypeId}{x y:Operand}(c:Codec α){a:Option Addr}{cap:Nat}{l:List α}{k:IntKind}{ix:Int}{z:α}(E:dH ops L i=some (some d,.indexAddr t x y))(B:Nat.blt d n=true)
  (G:bS L x=some (.slice a l.length cap)) (H:bS L y=some (.int k ix)) (hi:nU P t=some (e,c.sz)) (g:RepS c m a cap l) (f:aO l ix=some z)
  (h:∀b o cs,c.rep m z cs->MRow m b o cs->N ((d,.pointer (some ⟨b,o,none⟩))::L) w):dZ P n ops Q i N L w:=by
 obtain⟨s,inf,u,v⟩:=wC hi
 unfold aO at f
 split at f
 .rename_i h0
  have r:ix.toNat<l.length:=(List.getElem?_eq_some_iff.1 f).1
  cases a with
  |none=>obtain⟨rfl,_⟩:=g.none_nil;simp at r
  |some p=>
   obtain⟨cs,A,D⟩:=g.2.2.2 _ _ f
   refine lO E B (λq F=> ?_) (h p.block (p.off+ix.toNat*c.sz) cs A D)
   have hlt':ix<(l.length:Int):=by omega
   simp[execOp,F,Instr.indexAt,cT G,cT H,asIntOf,run_underlying s,h0,hlt',sizeOf,typeInfo,u,v,GL (g.spot (λe=>by grind))]
 cases f
theorem qBn{α:Type}{t u e by_:Nat}{x y:Operand}(c:Codec α){a:Option Addr}{cap:Nat}{l k r:List α}{v:Value}
  (A:dH ops L i=some (some d,.call {callee:= .builtin .append,args:= #[x,y],argTypes:= #[t,u]})) (s:Nat.blt d n=true)
  (F:bS L x=some (.slice a l.length cap)) (G:bS L y=some v) (p:St m (.room a l.length cap e c.sz::own) w) (hi:wG P t=some (e,c.sz,by_,c.sz)) (E:wV P u e)
  (B:RepS c m a cap l) (z:Gives P c m v k) (D:dS by_ l k=some r)
  (h:∀a' cap' m' w',m.le m'->St m' (.room a' r.length cap' e c.sz::own) w'->RepS c m' a' cap' r->N ((d,.slice a' r.length cap')::L) w'):dZ P n ops Q i N L w:=by
 refine GS (v:=undef) (w':=w) A s (λo q=> ?_)
 obtain⟨a',cap',m',w',f,g,hst',b⟩:=Yz (P:=P) (ty:=o.type) hi E p B z D
 refine⟨_,w',?_,h a' cap' m' w' g hst' b⟩
 simp[execOp,q,resolve,invoke,builtin,cT F,cT G,f]
theorem St.nilroom(h:St m own w)(e sz:Nat):St m (.room none 0 0 e sz::own) w:=h.cons ⟨rfl,rfl⟩ (by simp[Piece.block])
theorem Gives.str(s:BA):Gives P cU8 m (.string s) s.data.toList:=by
 refine⟨s.data.toList.map λb=> .int .u8 (b.toNat:Int),λw _=>⟨?_,?_,?_,?_⟩,?_⟩
 .simp[Builtin.lenOf]
 .have:s.extract 0 s.size=s:=by simp
  simp only[Builtin.firstCells,Sem.run_pure]
  congr 1
  apply Array.ext'
  simp
 .simp[cU8]
 .intro v a;simp at a;obtain⟨b,_,rfl⟩:=a;rfl
 intro j x a
 show List.take 1 (List.drop (j*1) _)=_
 grind [List.drop_eq_getElem_cons]
theorem mL{α:Type}{t e:TypeId}{len:Nat}{parts:Array (Nat×Operand)}(c:Codec α){xs:List α}(cs:List Value)(H:dH ops L i=some (some d,.buildSlice t len parts))(G:Nat.blt d n=true)
  (u:∀w:World,(Instr.buildSlice t len (parts.map λp=>(p.1,nX L p.2))).run P w= .ok (.slice (some ⟨w.heap.size,0,none⟩) len len) (w.alloc (.cells cs.toArray e)))
  (l:len=xs.length) (r:Nat.ble len maxLen=true) (k:St m own w) (s:RepAll c m xs cs)
  (h:∀b m' w',m.le m'->St m' (.room (some ⟨b,0,none⟩) xs.length len e c.sz::own) w'->RepS c m' (some ⟨b,0,none⟩) len xs->N ((d,.slice (some ⟨b,0,none⟩) xs.length len)::L) w'):dZ P n ops Q i N L w:=by
 subst l
 have a:=k.alloc (w':=w.alloc (.cells cs.toArray e)) ⟨⟨rfl,rfl⟩,rfl,mQ⟩ rfl
 have f:=k.fresh_free
 obtain⟨m',y,B,D,E,F,_⟩:=St.know (cs:=cs) a.tail (a.head_ne rfl) a.head.1 ad (λo v A=>by rw[f.1 o] at A;cases A)
 have g:=gK r
 refine lO H G (λq K=> ?_) (h w.heap.size m' _ y (B.cons ⟨rfl,rfl,jH _,g,⟨cs.toArray,a.head.1,by simp[s.len]⟩,?_,?_⟩ ?_) (RepS.of_cells (jH _) g (λj x M=>c.mono _ _ _ _ y (s.rep j x M)) D))
 .simp[execOp,K,u w]
 .intro o ho';exact E o (by rw[s.len];exact ho')
 .rw[F];exact f.2
 intro b z;simp only[Piece.block,gJ,jM] at z;subst z;exact a.head_ne rfl
def XZ(P:Program)(t:TypeId)(len:Nat)(parts:List (Nat×Value)):Option (TypeId×List Value):=
 match P.underlying t with
 |some (.slice e)=>match P.info? e with
  |some inf=>bif Nat.ble (len*inf.size) (2^24)&&Nat.blt 0 (len*inf.size) then
   (match inf.zero with
   |some z=>(Instr.fill (λi=>some (i*inf.size,inf.size)) ((Array.range (len*inf.size)).map (z.cells[· %z.cells.size]!)) parts).map λa=>(e,a.toList)
   |none=>none) else none
  |none=>none
 |_=>none
theorem Fg{t e:TypeId}{parts:Array (Nat×Value)}{cs:List Value}(d:parts= #[])(h:(P.underlying t,(P.info? e).isSome,cs)=(some (.slice e),true,[]))(w:World):
  (Instr.buildSlice t 0 parts).run P w= .ok (.slice (some ⟨w.heap.size,0,none⟩) 0 0) (w.alloc (.cells cs.toArray e)):=by
 simp only[Prod.mk.injEq] at h
 obtain⟨a,b,rfl⟩:=h
 subst d
 obtain⟨inf,hi⟩:=Option.isSome_iff_exists.1 b
 have c:∀(z:Value),(newRow e (Array.map (λ_=>z) (Array.range 0))).run P w= .ok ⟨w.heap.size,0,none⟩ (w.alloc (.cells #[] e)):=λz=>by rw[show Array.range 0= #[] by simp,show Array.map (λ_=>z) (#[]:Array Nat)= #[] by simp];rfl
 simp[Instr.buildSlice,run_underlying a,sizeOf,typeInfo,hi,Instr.fill,c]
theorem mS{t e:TypeId}{len:Nat}{parts:Array (Nat×Value)}{cs:List Value}(h:XZ P t len parts.toList=some (e,cs))(w:World):
  (Instr.buildSlice t len parts).run P w= .ok (.slice (some ⟨w.heap.size,0,none⟩) len len) (w.alloc (.cells cs.toArray e)):=by
 unfold XZ at h
 split at h
 .rename_i e' he
  split at h
  .rename_i inf hi
   cases hb:(Nat.ble (len*inf.size) (2^24)&&Nat.blt 0 (len*inf.size)) with
   |false=>grind
   |true=>
    simp only[hb,cond_true] at h
    simp only[jU] at hb
    have d:=gK hb.1
    have f:0<len*inf.size:=by simp_all
    have h1':¬(16777216<len*inf.size):=by omega
    have h2':¬(len*inf.size=0):=by omega
    split at h
    .rename_i z hz
     obtain⟨a,c,b⟩:=jK.1 h
     simp only[Prod.mk.injEq] at b
     obtain⟨rfl,rfl⟩:=b
     simp[Instr.buildSlice,run_underlying he,sizeOf,typeInfo,zeroValue,hi,hz,h1',c,newRow]
     grind
    cases h
  cases h
 cases h
def qP{α:Type}(l:List α)(lo hi:Int):Option (List α):=if 0<=lo/\lo<=hi/\hi<=l.length then some ((l.take hi.toNat).drop lo.toNat) else none
theorem RepS.sub{α:Type}{c:Codec α}{a:Option Addr}{cap:Nat}{l:List α}(h:RepS c m a cap l){lo hi:Nat}(g:lo<=hi)(k:hi<=l.length):
  RepS c m (if cap=lo then a else a.map (·.add (lo*c.sz))) (cap-lo) ((l.take hi).drop lo)/\((l.take hi).drop lo).length=hi-lo:=by
 have d:((l.take hi).drop lo).length=hi-lo:=by simp;omega
 refine⟨⟨by rw[d];have:=h.1;omega,by have:=h.2.1;omega,?_⟩,d⟩
 cases a with
 |none=>
  obtain⟨rfl,e⟩:=h.none_nil
  grind
 |some p=>
  by_cases hl:l=[]
  .grind
  have f:=h.spot hl
  by_cases e:cap=lo
  .rw[jB e]
   refine⟨.inl f,λj x b=> ?_⟩
   have n:=(List.getElem?_eq_some_iff.1 b).1
   have:=h.1
   omega
  rw[jA e]
  simp only[gJ]
  rw[GL f]
  refine⟨.inl rfl,λj x b=> ?_⟩
  rw[List.getElem?_drop,List.getElem?_take] at b
  split at b
  .obtain⟨cs,o,n⟩:=h.2.2.2 _ _ b
   grind
  cases b
theorem Kd{α:Type}{t e:TypeId}{x:Operand}{lo hi:Option Operand}(c:Codec α){a:Option Addr}{cap:Nat}{l r:List α}{li hix:Int}
  (u:bS L x=some (.slice a l.length cap)) (H:nU P t=some (e,c.sz)) (E:RepS c m a cap l)
  (D:(lo=none/\li=0)\/∃y k,lo=some y/\bS L y=some (.int k li)) (A:(hi=none/\hix=l.length)\/∃y k,hi=some y/\bS L y=some (.int k hix)) (g:qP l li hix=some r):
  ∃v,(∀o:Oper,o.op= .slice t x lo hi none->∀w:World,(execOp (nX L) o).run P w= .ok (.value v) w)/\∃a' cap',v= .slice a' r.length cap'/\RepS c m a' cap' r:=by
 obtain⟨h,inf,n,p⟩:=wC H
 unfold qP at g
 split at g
 .rename_i hb
  obtain⟨z,G,K⟩:=hb
  simp only[jM] at g
  have b:=E.sub (lo:=li.toNat) (hi:=hix.toNat) aa aa
  rw[g] at b
  refine⟨_,λq s w=> ?_,_,_,rfl,b.1⟩
  have d:hix<=(cap:Int):=by have:=E.1;omega
  have f:0<=hix:=by omega
  have B:li<=max hix 0:=by omega
  rcases D with ⟨rfl,rfl⟩|⟨y,k,rfl,F⟩<;>rcases A with ⟨rfl,rfl⟩|⟨y',k',rfl,hy'⟩
  .simp[execOp,s,Instr.sliceAt,Instr.slice,Instr.sliceBounds,run_underlying h,cT u,sizeOf,typeInfo,n,p] at*
   exact b.2.symm
  .simp[execOp,s,Instr.sliceAt,Instr.slice,Instr.sliceBounds,Instr.sliceBound,asIntOf,run_underlying h,cT u,cT hy',sizeOf,typeInfo,n,p,f,d] at*
   exact b.2.symm
  .have:li<=(l.length:Int):=G
   simp[execOp,s,Instr.sliceAt,Instr.slice,Instr.sliceBounds,Instr.sliceBound,asIntOf,run_underlying h,cT u,cT F,sizeOf,typeInfo,n,p,z,this] at*
   exact b.2.symm
  simp[execOp,s,Instr.sliceAt,Instr.slice,Instr.sliceBounds,Instr.sliceBound,asIntOf,run_underlying h,cT u,cT F,cT hy',sizeOf,typeInfo,n,p,f,d,z,B] at*
  exact b.2.symm
 cases g
theorem GO{α:Type}{t e:TypeId}{x:Operand}{lo hi:Option Operand}(c:Codec α){a:Option Addr}{cap:Nat}{l r:List α}{li hix:Int}
  (s:dH ops L i=some (some d,.slice t x lo hi none)) (p:Nat.blt d n=true) (D:bS L x=some (.slice a l.length cap)) (o:nU P t=some (e,c.sz)) (z:RepS c m a cap l)
  (g:(lo=none/\li=0)\/∃y k,lo=some y/\bS L y=some (.int k li)) (f:(hi=none/\hix=l.length)\/∃y k,hi=some y/\bS L y=some (.int k hix)) (A:qP l li hix=some r)
  (h:∀a' cap',RepS c m a' cap' r->N ((d,.slice a' r.length cap')::L) w):dZ P n ops Q i N L w:=by
 obtain⟨v,B,a',cap',rfl,b⟩:=Kd (P:=P) (L:=L) c D o z g f A
 exact lO s p (λq u=>B q u w) (h a' cap' b)
end
end Go.Dc
section
namespace Go.Dc
def Cq(k:IntKind)(a b:Int):Int:=k.wrap ((BitVec.ofInt k.bits a&&&BitVec.ofInt k.bits b).toNat:Int)
def DR(k:IntKind)(x y:Int):Option Int:=if y<0 then none else some (x.fdiv (2^(min y.toNat k.bits)))
def uE(k:IntKind)(x y:Int):Option Int:=if y=0 then none else some (k.wrap (x.tdiv y))
def BG(x y:Int):Option Int:=if y=0 then none else some (x.tmod y)
def uG(x:Int):UInt8:=UInt8.ofNat x.toNat
theorem qDo(z:Int):((uG (IntKind.wrap .u8 z)).toNat:Int)=IntKind.wrap .u8 z:=by
 grind [Go.IntKind.wrap,Go.IntKind.signed,Go.IntKind.bits,uG,UInt8.toNat_ofNat']
theorem qKa{m:Mem}{z:Int}(h:((uG z).toNat:Int)=z):cU8.rep m (uG z) [.int .u8 z]:=by
 show _=_
 rw[h]
theorem Gw{m:Mem}(z:Int):cU8.rep m (uG (IntKind.wrap .u8 z)) [.int .u8 (IntKind.wrap .u8 z)]:=qKa (qDo z)
def aA{σ β:Type}(f:σ->Option (σ⊕β)):Nat->σ->Option β
 |0,_=>none
 |k+1,s=>(f s).bind fun
  | .inl s'=>aA f k s'
  | .inr b=>some b
theorem qBi{σ β:Type}{f:σ->Option (σ⊕β)}{k:Nat}{s:σ}{b:β}(h:aA f (k+1) s=some b):∃c,f s=some c/\(∀s',c= .inl s'->aA f k s'=some b)/\(∀b',c= .inr b'->b'=b):=by
 grind [aA,Option.bind_eq_some_iff]
section
variable {ρ:Option Nat} {P:Program} {n:Fr} {ops:Array Oper} {Q:Exit->Act->World->Prop} {i d:Nat} {L:bO} {w:World} {m:Mem} {own:List Piece} {N:bO->World->Prop}
theorem qId{t:Nat}{b:Bool}(e:Bool)(d:look L t=some (.bool e))(f:e=b)(h:WO P n ops Q i ((t,.bool b)::L) w):WO P n ops Q i L w:=by
 intro a c
 refine h a (c.sub ?_)
 grind [look,Nat.eq_of_beq_eq_true]
theorem pY{j:Nat}(I:bO->World->Prop)(a:∀L' w',I L' w'->WO P n ops Q j L' w')(b:(∀L' w',I L' w'->WO P n ops Q j L' w')->WO P n ops Q i L w):WO P n ops Q i L w:=b a
theorem eF{c:Code}(e:Exit)(I:bO->World->Prop)(b:∀L' w',I L' w'->X n Q e L' w')(a:(∀L' w',I L' w'->X n Q e L' w')->W ρ P n c Q L w):W ρ P n c Q L w:=a b
theorem qHb{t t2:TypeId}{x y:Operand}{k p:IntKind}{a b r:Int}(f:dH ops L i=some (some d,.binOp .shr t x y t2))(e:Nat.blt d n=true)(l:bS L x=some (.int k a))(o:bS L y=some (.int p b))
  (c:DR k a b=some r) (h:N ((d,.int k r)::L) w):dZ P n ops Q i N L w:=by
 unfold DR at c
 split at c
 .cases c
 rename_i hb
 simp only[jM] at c;subst c
 refine lO f e (λq g=> ?_) h
 simp[execOp,g,cT l,cT o,eqGuard,binOp,Op.shift,hb]
theorem Oz{t t2:TypeId}{x y:Operand}{k:IntKind}{a b r:Int}(f:dH ops L i=some (some d,.binOp .quo t x y t2))(e:Nat.blt d n=true)(l:bS L x=some (.int k a))(o:bS L y=some (.int k b))
  (c:uE k a b=some r) (h:N ((d,.int k r)::L) w):dZ P n ops Q i N L w:=by
 unfold uE at c
 split at c
 .cases c
 rename_i hb
 simp only[jM] at c;subst c
 refine lO f e (λq g=> ?_) h
 simp[execOp,g,cT l,cT o,eqGuard,binOp,Op.intDiv,hb]
theorem Pv{t t2:TypeId}{x y:Operand}{k:IntKind}{a b r:Int}(f:dH ops L i=some (some d,.binOp .rem t x y t2))(e:Nat.blt d n=true)(l:bS L x=some (.int k a))(o:bS L y=some (.int k b))
  (c:BG a b=some r) (h:N ((d,.int k r)::L) w):dZ P n ops Q i N L w:=by
 unfold BG at c
 split at c
 .cases c
 rename_i hb
 simp only[jM] at c;subst c
 refine lO f e (λq g=> ?_) h
 simp[execOp,g,cT l,cT o,eqGuard,binOp,Op.intDiv,hb]
def qS(s:BA)(lo hi:Int):Option BA:=if 0<=lo/\lo<=hi/\hi<=s.size then some ⟨((s.data.toList.drop lo.toNat).take (hi.toNat-lo.toNat)).toArray⟩ else none
theorem Me(s:BA)(lo hi:Int):qS s lo hi=if 0<=lo/\lo<=hi/\hi<=s.size then some (s.extract lo.toNat hi.toNat) else none:=by
 have:s.extract lo.toNat hi.toNat=⟨((s.data.toList.drop lo.toNat).take (hi.toNat-lo.toNat)).toArray⟩:=by
  apply ByteArray.ext
  rw[ByteArray.data_extract]
  grind
 rw[this];rfl
def iB(s:BA)(i:Int):Option UInt8:=if 0<=i then s[i.toNat]? else none
def bW(s t:BA):Option BA:=if s.size+t.size<=maxLen then some (s++t) else none
def dP(l:List UInt8):BA:=⟨l.toArray⟩
theorem Yr{t:TypeId}{x y:Operand}{s:BA}{k:IntKind}{ix:Int}{z:UInt8}(c:dH ops L i=some (some d,.index t x y))(b:Nat.blt d n=true)(g:bS L x=some (.string s))(l:bS L y=some (.int k ix))
  (f:P.underlying t=some .string) (a:iB s ix=some z) (h:N ((d,.int .u8 (z.toNat:Int))::L) w):dZ P n ops Q i N L w:=by
 unfold iB at a
 split at a
 .rename_i h0
  refine lO c b (λq e=> ?_) h
  simp[execOp,e,cT g,cT l,Instr.index,asIntOf,run_underlying f,h0,a]
 cases a
theorem wD{t:TypeId}{x:Operand}{lo hi:Option Operand}{s r:BA}{li hix:Int}(B:dH ops L i=some (some d,.slice t x lo hi none))(A:Nat.blt d n=true)(f:bS L x=some (.string s))
  (e:P.underlying t=some .string) (u:(lo=none/\li=0)\/∃y k,lo=some y/\bS L y=some (.int k li)) (o:(hi=none/\hix=s.size)\/∃y k,hi=some y/\bS L y=some (.int k hix)) (b:qS s li hix=some r)
  (h:N ((d,.string r)::L) w):dZ P n ops Q i N L w:=by
 rw[Me] at b
 split at b
 .rename_i hb
  obtain⟨g,z,l⟩:=hb
  simp only[jM] at b;subst b
  refine lO B A (λq c=> ?_) h
  have a:0<=hix:=by omega
  have p:li<=max hix 0:=by omega
  rcases u with ⟨rfl,rfl⟩|⟨y,k,rfl,v⟩<;>rcases o with ⟨rfl,rfl⟩|⟨y',k',rfl,hy'⟩
  .simp[execOp,c,Instr.sliceAt,Instr.slice,Instr.sliceBounds,run_underlying e,cT f]
  .simp[execOp,c,Instr.sliceAt,Instr.slice,Instr.sliceBounds,Instr.sliceBound,asIntOf,run_underlying e,cT f,cT hy',a,l]
  .have:li<=(s.size:Int):=z
   simp[execOp,c,Instr.sliceAt,Instr.slice,Instr.sliceBounds,Instr.sliceBound,asIntOf,run_underlying e,cT f,cT v,g,this]
  simp[execOp,c,Instr.sliceAt,Instr.slice,Instr.sliceBounds,Instr.sliceBound,asIntOf,run_underlying e,cT f,cT v,cT hy',a,l,g,p]
 cases b
theorem qGo{t t2:TypeId}{x y:Operand}{a b r:BA}(g:dH ops L i=some (some d,.binOp .add t x y t2))(f:Nat.blt d n=true)(l:bS L x=some (.string a))(o:bS L y=some (.string b))
  (c:bW a b=some r) (h:N ((d,.string r)::L) w):dZ P n ops Q i N L w:=by
 unfold bW at c
 split at c
 .rename_i hb
  simp only[jM] at c;subst c
  refine lO g f (λq k=> ?_) h
  have e:IntKind.i64.max=9223372036854775807:=by decide
  have hb':¬(9223372036854775807<(a.size:Int)+(b.size:Int)):=by grind [Go.maxLen]
  simp[execOp,k,cT l,cT o,eqGuard,binOp,Op.stringOp,e,hb']
 cases c
def ResAt(P:Program)(w:World)(L:bO)(rv:ResultVar)(v:Value):Prop:=
 match rv with
 | .tmp t=>look L t=some v
 | .cell a t=>∃b o cs,look L a=some (.pointer (some ⟨b,o,none⟩))/\(∀j u,cs[j]? =some u->w.cell? ⟨b,o+j,none⟩=some u)/\qK P t cs=some v
def ResAll(P:Program)(w:World)(L:bO):List ResultVar->List Value->Prop
 |[],vs=>vs=[]
 |rv::l,vs=>∃v vs',vs=v::vs'/\ResAt P w L rv v/\ResAll P w L l vs'
def sA:List Value->Value
 |[v]=>v
 |vs=> .tuple vs.toArray
theorem ResAt.row{t:TypeId}{a:Nat}{b o:Nat}{cs:List Value}{v:Value}(d:look L a=some (.pointer (some ⟨b,o,none⟩)))(c:St m own w)(e:MRow m b o cs)(g:qK P t cs=some v):ResAt P w L (.cell a t) v:=
 ⟨b,o,cs,d,λj u f=>c.inv.cell (e j u f),g⟩
theorem ResAt.blk{t e:TypeId}{a:Nat}{b o:Nat}{c:Array Value}{f:Nat×Nat}{v:Value}(g:look L a=some (.pointer (some ⟨b,o,none⟩)))(h:Piece.holds m w (.blk b (.cells c e f)))(k:qK P t (c.toList.drop o)=some v):ResAt P w L (.cell a t) v:=
 ⟨b,o,c.toList.drop o,g,λj u d=>by
  rw[List.getElem?_drop] at d
  simp only[World.cell?,h.1]
  simpa using d,k⟩
def NU(tmps:Array Value):ResultVar->Sem Value
 | .tmp t=>pure (tmps.getD t undef)
 | .cell a t=>do loadVar t (<-asAddr (tmps.getD a undef))
theorem qBf(fn:Func)(tmps:Array Value):results fn tmps=(do let vs <-fn.results.mapM (NU tmps);pure (if h:vs.size=1 then vs[0] else .tuple vs)):=by
 unfold results
 congr 2
theorem qI{k:Nat}{fn:Func}{R:Ending->World->Prop}(rvs:List ResultVar)(vs:List Value)(p:fn.results=rvs.toArray)(q:ResAll P w L rvs vs)(h:R (.returned (sA vs)) w):X ⟨k,[]⟩ (bodyPost P fn R) .ret L w:=by
 intro a c
 refine⟨c.2.1,sA vs,?_,h⟩
 have key:∀(l:List ResultVar) (us:List Value),ResAll P w L l us->Sem.run P (l.mapM (NU a.tmps)) w= .ok us w:=by
  intro l
  induction l with
  |nil=>intro us h;simp[ResAll] at h;subst h;simp
  |cons r l z=>
   rintro us ⟨v,vs',rfl,e,s⟩
   have y:Sem.run P (NU a.tmps r) w= .ok v w:=by
    cases r with
    |tmp t=>
     have d:a.tmps[t]? =some v:=c.2.2 t v e
     simp[NU,d]
    |cell x t=>
     obtain⟨b,o,cs,f,g,n⟩:=e
     have d:a.tmps[x]? =some (.pointer (some ⟨b,o,none⟩)):=c.2.2 x _ f
     have:=AE (P:=P) g n
     simp[NU,d,asAddr,this]
   rw[List.mapM_cons]
   grind [Go.Sem.run_bind,Go.Result.andThen_ok,Go.Sem.run_pure]
 have d:=key rvs vs q
 rw[qBf,p]
 simp only[Sem.run_bind,List.mapM_toArray,Sem.run_map,d,Result.andThen_ok,Sem.run_pure]
 rcases vs with _|⟨v,_|⟨u,r⟩⟩
 .rfl
 .rfl
 simp[sA]
end
theorem not_true{e:Bool}(h:e=false):¬e=true:=by grind
theorem ResAt.tmp{P:Program}{w:World}{L:bO}{t:Nat}{v:Value}(h:look L t=some v):ResAt P w L (.tmp t) v:=h
theorem ResAll.nil{P:Program}{w:World}{L:bO}:ResAll P w L [] []:=rfl
theorem ResAll.cons{P:Program}{w:World}{L:bO}{rv:ResultVar}{l:List ResultVar}{v:Value}{vs:List Value}(a:ResAt P w L rv v)(b:ResAll P w L l vs):ResAll P w L (rv::l) (v::vs):=⟨v,vs,rfl,a,b⟩
theorem aR{α β:Type}{x:Option α}{f:α->Option β}{b:β}(h:x.bind f=some b):∃a,x=some a/\f a=some b:=jV.1 h
theorem Bq{α1 α2 γ β:Type}{d:Option α1}{e:α1->Option α2}{c:Option γ}{k:α1->α2->γ->Option β}{r:β}(h:((d).bind λa=>(e a).bind λb=>c.bind λy=>k a b y)=some r):(c.bind λy=>(d).bind λa=>(e a).bind λb=>k a b y)=some r:=by
 cases c with
 |none=>simp at h
 |some y=>exact h
theorem qJe{α1 α2 α3 γ β:Type}{e:Option α1}{f:α1->Option α2}{g:α1->α2->Option α3}{c:Option γ}{k:α1->α2->α3->γ->Option β}{r:β}(h:((e).bind λa=>(f a).bind λb=>(g a b).bind λd=>c.bind λy=>k a b d y)=some r):(c.bind λy=>(e).bind λa=>(f a).bind λb=>(g a b).bind λd=>k a b d y)=some r:=by
 cases c with
 |none=>simp at h
 |some y=>exact h
theorem eX(e:Bool):e=true\/e=false:=by cases e<;>simp
theorem qBd{σ β:Type}{f:σ->Option (σ⊕β)}{s:σ}{b:β}{p:Prop}(h:aA f 0 s=some b):p:=by grind [aA]
def Ck{β:Type}[DecidableEq β](A B:Option β):Option β:=if A=B then A else none
def IE{α β:Type}[DecidableEq β](l:List α)(A B:Option β):Option β:=match l with
 |[]=>Ck A B
 |_::_=>B
theorem qBb{α β:Type}[DecidableEq β]{l:List α}{A B:Option β}{r:β}(h:IE l A B=some r):B=some r:=by
 cases l with
 |nil=>
  grind [IE,Ck]
 |cons _ _=>exact h
theorem nilS_true{α β:Type}[DecidableEq β]{c:Codec α}{m:Mem}{a:Option Addr}{cap:Nat}{l:List α}{A B:Option β}{r:β}(h:IE l A B=some r)(d:RepS c m a cap l)(b:a.isNone=true):A=some r:=by
 cases a with
 |some _=>cases b
 |none=>
  obtain⟨rfl,_⟩:=d.none_nil
  grind [IE,Ck]
section
variable {P:Program} {n:Fr} {ops:Array Oper} {Q:Exit->Act->World->Prop} {i d:Nat} {L:bO} {w:World} {N:bO->World->Prop}
theorem Xm(dp:Nat){t e:TypeId}{a:Option Addr}{k c:Nat}(w:World)(b:P.underlying t=some (.slice e)):(Op.equalIn (dp+1) t (.slice a k c) (.slice none 0 0)).run P w= .ok a.isNone w:=by
 cases a<;>simp[Op.equalIn,run_underlying b]
theorem Xv{t e:TypeId}{a:Option Addr}{k c:Nat}(w:World)(b:P.underlying t=some (.slice e)):(Op.equal t (.slice a k c) (.slice none 0 0)).run P w= .ok a.isNone w:=Xm 9999 w b
theorem TE{t t2 e:TypeId}{x y:Operand}{a:Option Addr}{k c:Nat}(b:Bool)(l:dH ops L i=some (some d,.binOp .eql t x y t2))(g:Nat.blt d n=true)(r:bS L x=some (.slice a k c))(s:bS L y=some (.slice none 0 0))
  (p:P.underlying t=some (.slice e)) (f:a.isNone=b) (h:N ((d,.bool b)::L) w):dZ P n ops Q i N L w:=by
 subst f
 refine lO l g (λq o=> ?_) h
 simp[execOp,o,cT r,cT s,eqGuard,binOp,Xv w p]
variable {ρ:Option Nat} {m:Mem} {own:List Piece}
def TS:List (Nat×(World->Prop))->Array Bool->World->Prop
 |[],_,_=>True
 |p::ks,l,w=>(l.getD p.1 false=true\/p.2 w)/\TS ks l w
theorem Bo{ks:List (Nat×(World->Prop))}{l:Array Bool}{w:World}:TS ks l w↔∀p∈ks,l.getD p.1 false=true\/p.2 w:=by
 induction ks with
 |nil=>simp[TS]
 |cons p ks a=>simp[TS,a]
def Pt(ks:List (Nat×(World->Prop)))(i:Nat):Bool:=ks.all λp=> !Nat.beq p.1 i
theorem Yu{ks:List (Nat×(World->Prop))}{i:Nat}(h:Pt ks i=true):∀p∈ks,p.1≠i:=by
 intro p a e
 have:=jL.1 h p a
 simp_all
def OC(P:Program)(ops:Array Oper)(Q:Exit->Act->World->Prop)(ks:List (Nat×(World->Prop))):Nat->Array Bool->Act->World->Prop
 |0,listed,a,w=>Region.ready .any ops listed=[]/\Q .normal a w
 |fuel+1,listed,a,w=>
  (Region.ready .any ops listed=[]->Q .normal a w)/\
  ∀i∈Region.ready .any ops listed,oZ P ops Q i (λa' w'=>TS ks (listed.setIfInBounds i true) w'/\OC P ops Q ks fuel (listed.setIfInBounds i true) a' w') a w
theorem Hq{ρ:Option Nat}(b:HD ρ ops=true){ks:List (Nat×(World->Prop))}:∀(fuel:Nat) (listed:Array Bool) (a:Act) (w:World),OC P ops Q ks fuel listed a w->wpAnyIn (iK ρ) 0 P .any ops Q fuel listed a w
 |0,_,_,_,h=>h
 |fuel+1,_,_,_,h=>⟨h.1,λi hi=>Qq b (λa' w' h'=>Hq b fuel _ a' w' h'.2) (h.2 i hi)⟩
theorem Gg{S:World->Prop}{i:Nat}{o:Oper}{v:Value}{a:Act}(c:YieldsIf P ops S o v a)(hi:ops[i]? =some o)
  {K:Act->World->Prop} {w:World} (d:S w) (h:K (a.put o.dst v) w):oZ P ops Q i K a w:=by
 unfold oZ
 simp only[hi]
 rcases c with ⟨b,e⟩|⟨b,rfl⟩
 .grind [Go.Oper.uponIn]
 grind
theorem qCg{S:World->Prop}{j:Nat}{oi oj:Oper}{v:Value}(p:ops[j]? =some oj)(l:oi.apart ops oj=true)
  (n:∀cs b,oi.op≠ .select cs b) (o:∀cs b,oj.op≠ .select cs b)
  (s:∀c a w,Q (.panic c) (a.put oi.dst v) w->Q (.panic c) a w) {K:Act->World->Prop} {a:Act} {w:World}
  (e:YieldsIf P ops S oi v a) (h:oZ P ops Q j K (a.put oi.dst v) w):
  oZ P ops Q j (λa' w'=>YieldsIf P ops S oi v a'/\K (a'.put oi.dst v) w') a w:=by
 obtain⟨g,q,k⟩:=Oper.apart_spec l
 have keep:∀(a:Act),YieldsIf P ops S oi v a->∀u,YieldsIf P ops S oi v (a.put oj.dst u):=λa e u=>
  e.of_same (execOp_put oi n a oj.dst u k) (wanted_put oi a oj.dst u k)
 have keepD:∀d,YieldsIf P ops S oi v {a with defers:=d::a.defers}:=λd=>e.of_same rfl rfl
 unfold oZ at*
 simp only[p] at*
 rw[wanted_put oj a oi.dst v g] at h
 split
 .rename_i hw
  simp only[hw,jJ] at h
  rw[execOp_put oj o a oi.dst v g] at h
  generalize (execOp a.eval oj).run P w=r at*
  cases r with
  |ok x w'=>
   cases x<;>simp only[Oper.uponIn] at h ⊢
   case value u=>grind [Go.Act.put_comm]
   case skip=>grind [Go.Act.put_comm]
   case defer d=>
    grind [Go.Act.put_comm,Go.Act.put_defers]
   case enter f args=>
    grind [Go.CallsIn.mono,Go.Act.put_comm]
   case row row args=>grind [Go.Act.put_comm]
   grind [Go.RoundIn.mono,Go.Act.put_comm]
  |halt x w'=>
   cases x<;>simp only[Oper.uponIn] at h ⊢
   grind
 grind [Go.Act.put_comm]
def TY(ops:Array Oper)(k i:Nat):Bool:=
 match ops[k]? with
 |none=>true
 |some o=>o.after.any λe=>Region.binds .any e&&e.on==i
theorem Yb{k i:Nat}(h:TY ops k i=true){listed:Array Bool}(hi:listed.getD i true=false):k∉Region.ready .any ops listed:=by
 grind [Go.mem_ready,TY]
theorem Bk{ks:List (Nat×(World->Prop))}{l:Array Bool}{w:World}{i:Nat}(h:TS ks l w):TS ks (l.setIfInBounds i true) w:=by
 rw[Bo] at*
 intro p a
 rcases h p a with h|h
 .left
  by_cases hi:i=p.1
  .subst hi
   rcases Nat.lt_or_ge p.1 l.size with h'|h'
   .simp[h']
   grind
  simp_all
 exact .inr h
theorem qGc{ks:List (Nat×(World->Prop))}{l:Array Bool}{w:World}{i j:Nat}(b:∀p∈ks,p.1≠i)(h:TS ks ((l.setIfInBounds i true).setIfInBounds j true) w):TS ks (l.setIfInBounds j true) w:=by
 by_cases hij:i=j
 .simp_all
 rw[Bo] at*
 intro p a
 rcases h p a with h|h
 .left
  by_cases hj:j=p.1
  .simp_all
  rw[getD_set_ne false hj] at h ⊢
  rw[getD_set_ne false (Ne.symm (b p a))] at h;exact h
 exact .inr h
theorem Yl{k i:Nat}{S:World->Prop}{ks:List (Nat×(World->Prop))}(z:(k,S)∈ks)(u:∀p∈ks,p.1≠i){oi:Oper}{v:Value}(t:TY ops k i=true)(hi:ops[i]? =some oi)(n:∀(j:Nat) (o:Oper) cs b,ops[j]? =some o->o.op≠ .select cs b)
  (G:∀c a w,Q (.panic c) (a.put oi.dst v) w->Q (.panic c) a w):
  ∀(fuel:Nat) (listed:Array Bool) (a:Act) (w:World),listed.getD k false=false->
   (∀j oj,ops[j]? =some oj->j≠i->listed.getD j true=false->(∀e∈oj.after,Region.binds .any e=true->e.on≠i)->oi.apart ops oj=true)->
   i∈Region.ready .any ops listed->YieldsIf P ops S oi v a->TS ks listed w->
   OC P ops Q ks fuel (listed.setIfInBounds i true) (a.put oi.dst v) w->OC P ops Q ks (fuel+1) listed a w:=by
 have Y:k≠i:=u _ z
 have getS:∀{l:Array Bool} {w:World},l.getD k false=false->TS ks l w->S w:=λZ h=>by
  grind [Bo]
 intro fuel
 induction fuel with
 |zero=>
  intro listed a w s _ U D K H
  refine⟨λh=>(by grind),λj r=> ?_⟩
  by_cases hji:j=i
  .grind [Gg,Bk]
  have:=ready_mono r hji
  rw[H.1] at this
  cases this
 |succ fuel ih=>
  intro listed a w s d U D K H
  refine⟨λh=>(by grind),λj r=> ?_⟩
  by_cases hji:j=i
  .grind [Gg,Bk]
  have f:j≠k:=by
   grind [Yb,Go.mem_ready]
  have E:=H.2 j (ready_mono r hji)
  obtain⟨y,oj,g,M⟩:=mem_ready.1 r
  have A:∀e∈oj.after,Region.binds .any e=true->e.on≠i:=λe he hb V=>by
   grind [Go.mem_ready]
  have F:=qCg g (d j oj g hji y A) (λcs b=>n i oi cs b hi) (λcs b=>n j oj cs b g) G D E
  have hfree':∀q ok,ops[q]? =some ok->q≠i->(listed.setIfInBounds j true).getD q true=false->
    (∀e∈ok.after,Region.binds .any e=true->e.on≠i)->oi.apart ops ok=true:=λq ok R t x B=>by
   refine d q ok R t ?_ B
   by_cases f:j=q
   .grind
   rw[getD_set_ne true f] at x;exact x
  have hk0':(listed.setIfInBounds j true).getD k false=false:=by rw[getD_set_ne false f];exact s
  refine TV (λa' w' x=> ?_) F
  have hT':TS ks (listed.setIfInBounds j true) w':=qGc u x.2.1
  grind [Go.ready_mono,Array.setIfInBounds_comm]
def QP(Q:Exit->Act->World->Prop):Prop:=∀c a w d v,Q (.panic c) (Act.put a d v) w->Q (.panic c) a w
theorem aG{K:Act->World->Prop}(h:QP Q):QP (Exit.then K Q):=h
theorem bB{id:Nat}(h:QP Q):QP (Exit.inBlock id Q):=h
theorem dL{fn:Func}{R:Ending->World->Prop}:QP (bodyPost P fn R):=by
 rintro c a w d v ⟨b,e⟩
 refine⟨?_,e⟩
 cases d<;>exact b
def marks(l:List Nat)(n:Nat):Array Bool:=l.foldl (λa i=>a.setIfInBounds i true) (Array.replicate n false)
def WA(P:Program)(n:Fr)(ops:Array Oper)(Q:Exit->Act->World->Prop)(ks:List (Nat×(World->Prop)))(fuel:Nat)(done:List Nat)(L:bO)(w:World):Prop:=
 TS ks (marks done ops.size) w->∀a,Fits n a L->OC P ops Q ks fuel (marks done ops.size) a w
theorem MV(l:List Nat)(i n:Nat):marks (l++[i]) n=(marks l n).setIfInBounds i true:=by grind [marks]
theorem qGi{id:Nat}(d:HD ρ ops=true)(ks:List (Nat×(World->Prop)))(e:P.follows .mixedOrders=true)(st:St m own w)(h:∀w',w'.heap=w.heap->St m own w'->TS ks (marks [] ops.size) w'/\WA P n ops Q ks ops.size [] L w'):W ρ P n (.region id ops true) Q L w:=by
 intro a c
 have b:=h {w with drawn:=w.drawn+1} rfl (st.grow ⟨⟨rfl,rfl⟩,rfl,mQ⟩ λ_ _=>rfl)
 exact wpIn_region_any e (Hq d (ks:=ks) _ _ _ _ (b.2 b.1 a c))
theorem dA{id:Nat}(ks:List (Nat×(World->Prop)))(a:P.follows .mixedOrders=true)(st:St m own w)(h:∀w',w'.heap=w.heap->St m own w'->TS ks (marks [] ops.size) w'/\WA P n ops Q ks ops.size [] L w'):W none P n (.region id ops true) Q L w:=qGi rfl ks a st h
def mZ(ops:Array Oper)(ks:List (Nat×(World->Prop)))(k i:Nat)(done:List Nat):Bool:=
 Region.noSelect ops&&Region.free .any ops (marks done ops.size) i&&(Region.ready .any ops (marks done ops.size)).contains i&&TY ops k i&&Pt ks i&& !((marks done ops.size).getD k false)
variable {ks:List (Nat×(World->Prop))}
theorem ZP{k fuel:Nat}{S:World->Prop}{done:List Nat}{i:Nat}{o:Oper}{v:Value}{L':bO}(d:ops[i]? =some o)(f:mZ ops ks k i done=true)(b:(k,S)∈ks)(p:QP Q)
  (q:∀a,Fits n a L->YieldsIf P ops S o v a) (g:∀a,Fits n a L->Fits n (a.put o.dst v) L') (h:WA P n ops Q ks fuel (done++[i]) L' w):WA P n ops Q ks (fuel+1) done L w:=by
 simp only[mZ,jU,fO] at f
 obtain⟨⟨⟨⟨⟨r,s⟩,t⟩,u⟩,x⟩,y⟩:=f
 intro l a e
 have hT':TS ks (marks (done++[i]) ops.size) w:=by grind [MV,Bk]
 have:=h hT' (a.put o.dst v) (g a e)
 rw[MV] at this
 exact Yl b (Yu x) u d (Region.noSelect_spec r) (λc a w=>p c a w _ _) fuel _ a w y (Region.free_spec d s) (by simpa using t) (q a e) l this
theorem yE{k fuel:Nat}{S:World->Prop}{done:List Nat}(i d:Nat)(op:Op)(v:Value)(q:dH ops L i=some (some d,op))(p:Nat.blt d n=true)
  (t:mZ ops ks k i done=true) (c:(k,S)∈ks)
  (r:QP Q) (s:∀o:Oper,o.op=op->∀w,S w->(execOp (nX L) o).run P w= .ok (.value v) w)
  (h:WA P n ops Q ks fuel (done++[i]) ((d,v)::L) w):WA P n ops Q ks (fuel+1) done L w:=by
 obtain⟨o,e,f,u,g,l⟩:=GQ q
 exact ZP e t c r (v:=v) (λa b=> .inl ⟨b.wanted g,λw' hw'=>by rw[b.exec l];grind⟩) (λa b=>by rw[f];exact b.put p v) h
theorem qJw{k fuel:Nat}{S:World->Prop}{done:List Nat}(i d:Nat)(r:((ops[i]?).bind λo=>(tQ ops L o.guard).map λb=>(o.dst,b))=some (some d,false))(q:Nat.blt d n=true)
  (t:mZ ops ks k i done=true) (f:(k,S)∈ks)
  (s:QP Q) (h:WA P n ops Q ks fuel (done++[i]) ((d,undef)::L) w):WA P n ops Q ks (fuel+1) done L w:=by
 obtain⟨o,g,l⟩:=jV.1 r
 obtain⟨b,p,c⟩:=jK.1 l
 simp only[Prod.mk.injEq] at c
 obtain⟨c,rfl⟩:=c
 exact ZP g t f s (v:=undef) (λa e=> .inr ⟨e.wanted p,rfl⟩) (λa e=>by rw[c];exact e.put q undef) h
theorem aH{fuel:Nat}{done:List Nat}(i:Nat)(g:Region.ready .any ops (marks done ops.size)=[i])
  (h:dZ P n ops Q i (λL' w'=>TS ks (marks (done++[i]) ops.size) w'/\WA P n ops Q ks fuel (done++[i]) L' w') L w):WA P n ops Q ks (fuel+1) done L w:=by
 intro _ a f
 refine⟨λk=>(by grind),λj b=> ?_⟩
 rw[g] at b
 simp only[kY] at b
 subst b
 refine TV (λa' w' h'=> ?_) (h a f)
 obtain⟨L',c,d,e⟩:=h'
 have:=e d a' c
 grind [MV]
theorem bH{fuel:Nat}{done:List Nat}(c:Region.ready .any ops (marks done ops.size)=[])(h:X n Q .normal L w):WA P n ops Q ks fuel done L w:=by
 intro _ a b
 cases fuel with
 |zero=>exact⟨c,h a b⟩
 |succ f=>exact⟨λ_=>h a b,(by rw[c];simp)⟩
theorem hZ{fuel:Nat}{done:List Nat}{t:Nat}{b:Bool}(e:Bool)(f:look L t=some (.bool e))(g:e=b)(h:WA P n ops Q ks fuel done ((t,.bool b)::L) w):WA P n ops Q ks fuel done L w:=by
 intro c a d
 refine h c a (d.sub ?_)
 grind [look,Nat.eq_of_beq_eq_true]
theorem Inv.anti{m':Mem}(h:Inv m' w)(a:m.le m'):Inv m w:=⟨λb o v c=>h.1 b o v (a.1 _ _ _ c),λb x d=>h.2.1 b x (a.2.1 _ _ d),a.2.2▸h.2.2⟩
theorem Piece.holds_anti{m':Mem}{b:Nat}{o:Obj}(h:Piece.holds m' w (.blk b o))(a:m.le m'):Piece.holds m w (.blk b o):=by
 refine⟨h.1,λq=> ?_,?_⟩
 .cases hc:m.cell b q with
  |none=>rfl
  |some v=>rw[<-h.2.1 q,a.1 _ _ _ hc]
 cases hc:m.obj b with
 |none=>rfl
 |some v=>rw[<-h.2.2,a.2.1 _ _ hc]
def AQ(P:Program)(ops:Array Oper)(L:bO)(i:Nat):Option (Nat×Value):=
 match ops[i]? with
 |none=>none
 |some o=>match tQ ops L o.guard with
  |some true=>bif xB L o.op then(match o.dst,xK P (execOp (nX L) o) with
   |some d,some (.value v)=>some (d,v)
   |_,_=>none) else none
  |_=>none
theorem Pm{ks:List (Nat×(World->Prop))}{k fuel:Nat}{S:World->Prop}{done:List Nat}(i d:Nat)(v:Value)(c:AQ P ops L i=some (d,v))(g:Nat.blt d n=true)(p:mZ ops ks k i done=true)(f:(k,S)∈ks)(l:QP Q)
  (h:WA P n ops Q ks fuel (done++[i]) ((d,v)::L) w):WA P n ops Q ks (fuel+1) done L w:=by
 unfold AQ at c
 cases h1:ops[i]? with
 |none=>grind
 |some o=>
  simp only[h1] at c
  cases hw:tQ ops L o.guard with
  |none=>grind
  |some b=>
   cases b with
   |false=>grind
   |true=>
    simp only[hw] at c
    cases hk:xB L o.op with
    |false=>grind
    |true=>
     simp only[hk,cond_true] at c
     split at c
     .rename_i d' v' hd' he
      simp only[jM,Prod.mk.injEq] at c
      obtain⟨rfl,rfl⟩:=c
      exact ZP h1 p f l (v:=v') (λa e=> .inl ⟨e.wanted hw,λw' _=>by rw[e.exec hk];exact Ar he w'⟩) (λa e=>by rw[hd'];exact e.put g v') h
     cases c
theorem Yx{ks:List (Nat×(World->Prop))}{k fuel:Nat}{S:World->Prop}{done:List Nat}{t:TypeId}{x:Operand}{b o:Nat}{cs:List Value}(i d:Nat)(v:Value)(l:dH ops L i=some (some d,.load t x))(f:Nat.blt d n=true)
  (r:mZ ops ks k i done=true) (a:(k,S)∈ks) (c:QP Q) (e:∀w,S w->Inv m w) (z:bS L x=some (.pointer (some ⟨b,o,none⟩))) (p:MRow m b o cs) (y:qK P t cs=some v)
  (h:WA P n ops Q ks fuel (done++[i]) ((d,v)::L) w):WA P n ops Q ks (fuel+1) done L w:=by
 refine yE i d _ v l f r a c (λq c w' hw'=> ?_) h
 have g:=AE (P:=P) (w:=w') (t:=t) (b:=b) (o:=o) (cs:=cs) (v:=v) (λj u s=>(e w' hw').cell (p j u s)) y
 simp[execOp,c,Instr.loadAt,cT z,Instr.sureAddr,g]
theorem Gu{ks:List (Nat×(World->Prop))}{k fuel:Nat}{S:World->Prop}{done:List Nat}{t e:TypeId}{x:Operand}{b o:Nat}{c:Array Value}{f:Nat×Nat}(i d:Nat)(v:Value)(s:dH ops L i=some (some d,.load t x))(p:Nat.blt d n=true)
  (y:mZ ops ks k i done=true) (a:(k,S)∈ks) (g:QP Q) (l:∀w,S w->Piece.holds m w (.blk b (.cells c e f))) (A:bS L x=some (.pointer (some ⟨b,o,none⟩))) (z:qK P t (c.toList.drop o)=some v)
  (h:WA P n ops Q ks fuel (done++[i]) ((d,v)::L) w):WA P n ops Q ks (fuel+1) done L w:=by
 refine yE i d _ v s p y a g (λq g w' hw'=> ?_) h
 have B:=(l w' hw').1
 have r:=AE (P:=P) (w:=w') (t:=t) (b:=b) (o:=o) (cs:=c.toList.drop o) (v:=v) (λj u D=>by
  grind [Go.World.cell?]) z
 simp[execOp,g,Instr.loadAt,cT A,Instr.sureAddr,r]
theorem iD{α:Type}{ks:List (Nat×(World->Prop))}{k fuel:Nat}{S:World->Prop}{done:List Nat}{t e:TypeId}{x y:Operand}(i d:Nat)(c:Codec α){a:Option Addr}{cap:Nat}{l:List α}{kd:IntKind}{ix:Int}{z:α}(G:dH ops L i=some (some d,.indexAddr t x y))(E:Nat.blt d n=true)
  (H:mZ ops ks k i done=true) (g:(k,S)∈ks) (r:QP Q)
  (K:bS L x=some (.slice a l.length cap)) (M:bS L y=some (.int kd ix)) (hi:nU P t=some (e,c.sz)) (s:RepS c m a cap l) (f:aO l ix=some z)
  (h:∀b o cs,c.rep m z cs->MRow m b o cs->WA P n ops Q ks fuel (done++[i]) ((d,.pointer (some ⟨b,o,none⟩))::L) w):WA P n ops Q ks (fuel+1) done L w:=by
 obtain⟨v,inf,A,B⟩:=wC hi
 unfold aO at f
 split at f
 .rename_i h0
  have u:ix.toNat<l.length:=(List.getElem?_eq_some_iff.1 f).1
  cases a with
  |none=>obtain⟨rfl,_⟩:=s.none_nil;simp at u
  |some p=>
   obtain⟨cs,D,F⟩:=s.2.2.2 _ _ f
   refine yE i d _ _ G E H g r (λq r w' _=> ?_) (h p.block (p.off+ix.toNat*c.sz) cs D F)
   have hlt':ix<(l.length:Int):=by omega
   simp[execOp,r,Instr.indexAt,cT K,cT M,asIntOf,run_underlying v,h0,hlt',sizeOf,typeInfo,A,B,GL (s.spot (λe=>by grind))]
 cases f
theorem qDx{α:Type}{ks:List (Nat×(World->Prop))}{k fuel:Nat}{S:World->Prop}{done:List Nat}{t e:TypeId}{x:Operand}{lo hi:Option Operand}(i d:Nat)(c:Codec α){a:Option Addr}{cap:Nat}{l r:List α}{li hix:Int}
  (B:dH ops L i=some (some d,.slice t x lo hi none)) (A:Nat.blt d n=true) (z:mZ ops ks k i done=true) (o:(k,S)∈ks) (D:QP Q) (u:bS L x=some (.slice a l.length cap)) (g:nU P t=some (e,c.sz)) (p:RepS c m a cap l)
  (f:(lo=none/\li=0)\/∃y k,lo=some y/\bS L y=some (.int k li)) (b:(hi=none/\hix=l.length)\/∃y k,hi=some y/\bS L y=some (.int k hix)) (s:qP l li hix=some r)
  (h:∀a' cap',RepS c m a' cap' r->WA P n ops Q ks fuel (done++[i]) ((d,.slice a' r.length cap')::L) w):WA P n ops Q ks (fuel+1) done L w:=by
 obtain⟨v,E,a',cap',rfl,q⟩:=Kd (P:=P) (L:=L) c u g p f b s
 grind [yE]
def NH(P:Program)(t:TypeId):Option TypeId:=
 match P.underlying t with
 |some (.slice e)=>match P.underlying e with
  |some (.int .u8)=>some e
  |_=>none
 |_=>none
theorem XJ{t e:TypeId}(h:NH P t=some e):P.underlying t=some (.slice e)/\P.underlying e=some (.int .u8):=by
 grind [NH]
theorem qEr{a:Option Addr}{cap:Nat}{l:List UInt8}(h:RepS cU8 m a cap l):∀p,a=some p->(p.spot=none\/l=[])/\MRow m p.block p.off (l.map λb=> .int .u8 (b.toNat:Int)):=by
 rintro p rfl
 refine⟨h.2.2.1,λj v d=> ?_⟩
 rw[List.getElem?_map] at d
 obtain⟨x,k,rfl⟩:=jK.1 d
 obtain⟨cs,f,g⟩:=h.2.2.2 j x k
 have c:cs=[.int .u8 (x.toNat:Int)]:=f
 subst c
 have:=g 0 _ rfl
 have e:cU8.sz=1:=rfl
 grind
theorem XM{t1 t2 e:TypeId}{x:Operand}{a:Option Addr}{cap:Nat}{l:List UInt8}(y:dH ops L i=some (some d,.convert t1 t2 x))(t:Nat.blt d n=true)(o:bS L x=some (.slice a l.length cap))
  (r:NH P t1=some e) (f:P.underlying t2=some .string) (st:St m own w) (k:RepS cU8 m a cap l) (h:N ((d,.string (dP l))::L) w):dZ P n ops Q i N L w:=by
 obtain⟨b,c⟩:=XJ r
 refine lO y t (λq g=> ?_) h
 cases a with
 |none=>
  obtain⟨rfl,_⟩:=k.none_nil
  have s:(Conv.bytesToString (.slice none 0 cap)).run P w= .ok (.string (dP [])) w:=rfl
  simp[execOp,g,cT o,run_convert_bytes_string w t1 t2 e none _ _ b c f,s]
 |some p=>
  obtain⟨z,v⟩:=qEr k p rfl
  have u:=run_convert_bytes_back (P:=P) w t1 t2 e p cap l b c f (λj s=>by
   rw[GL (z.resolve_right (λe=>by grind))]
   exact st.inv.cell (v j _ (by simp[s])))
  simp[execOp,g,cT o,u,dP]
def bytesOf(s:BA):Option (List UInt8):=if s.size<=maxLen then some s.data.toList else none
theorem Yt{t1 t2 e:TypeId}{x:Operand}{s:BA}{l:List UInt8}(G:dH ops L i=some (some d,.convert t1 t2 x))(F:Nat.blt d n=true)(p:bS L x=some (.string s))
  (B:NH P t2=some e) (D:P.underlying t1=some .string) (st:St m own w) (f:bytesOf s=some l)
  (h:∀b cap m' w',m.le m'->St m' own w'->RepS cU8 m' (some ⟨b,0,none⟩) cap l->N ((d,.slice (some ⟨b,0,none⟩) l.length cap)::L) w'):dZ P n ops Q i N L w:=by
 obtain⟨z,A⟩:=XJ B
 unfold bytesOf at f
 split at f
 .rename_i hmx
  simp only[jM] at f;subst f
  generalize hgc:grownCap w s.size 0 e=gc
  have r:s.size<=gc:=hgc▸grownCap_ge _ _ _ _
  have t:gc<=maxLen:=hgc▸grownCap_le_maxLen _ _ _ _ hmx
  generalize hcur:(s.data.map λb=>Value.int .u8 (b.toNat:Int))++Array.replicate (gc-s.size) (.int .u8 0)=cur
  have H:(convert t1 t2 (.string s)).run P w= .ok (.slice (some ⟨w.heap.size,0,none⟩) s.size gc) (w.drew.alloc (.cells cur e (cur.size,cur.size+1))):=by
   have c:(Question.appendCap s.size 0 e).forced=false:=rfl
   have E:(Question.appendCap s.size 0 e).cut (w.tape w.drawn (Question.appendCap s.size 0 e))=gc:=hgc
   have a:(w.drew.alloc (.cells cur e)).heap[w.heap.size]? =some (.cells cur e):=by
    show(w.heap.push (.cells cur e))[w.heap.size]? =_
    simp
   have u:(w.drew.alloc (.cells cur e)).shape? w.heap.size=some (e,cur.size):=by
    grind [Go.World.shape?]
   have g:∀k:Nat,(w.drew.alloc (.cells cur e)).freeze ⟨w.heap.size,k,none⟩ 1=w.drew.alloc (.cells cur e (k,k+1)):=λk=>by
    unfold World.freeze World.alloc World.drew
    simp only[Nat.one_ne_zero,jE]
    congr 1
    grind
   have K:(markStringish ⟨w.heap.size,0,none⟩).run P (w.drew.alloc (.cells cur e))= .ok () (w.drew.alloc (.cells cur e (cur.size,cur.size+1))):=by
    simp[markStringish,u,g]
   have M:(newRow e cur).run P w.drew= .ok ⟨w.heap.size,0,none⟩ (w.drew.alloc (.cells cur e)):=rfl
   have y:(Conv.stringToBytes e s).run P w= .ok (.slice (some ⟨w.heap.size,0,none⟩) s.size gc) (w.drew.alloc (.cells cur e (cur.size,cur.size+1))):=by
    unfold Conv.stringToBytes
    simp_all
   simp[convert,run_underlying D,run_underlying z,run_underlying A,y]
  have a:=st.alloc (w':=w.drew.alloc (.cells cur e (cur.size,cur.size+1))) (o:= .cells cur e (cur.size,cur.size+1)) ⟨⟨rfl,rfl⟩,rfl,mQ⟩ rfl
  have c:=st.fresh_free
  have u:cur.toList.take (s.data.toList.map λb=>Value.int .u8 (b.toNat:Int)).length=s.data.toList.map λb=>Value.int .u8 (b.toNat:Int):=by
   grind [Array.toList_map]
  obtain⟨m',K,M,R,_⟩:=St.know (b:=w.heap.size) (cs:=s.data.toList.map λb=>Value.int .u8 (b.toNat:Int)) a.tail (a.head_ne rfl) a.head.1 u (λo v y=>by rw[c.1 o] at y;cases y)
  have g:RepS cU8 m' (some ⟨w.heap.size,0,none⟩) gc s.data.toList:=RepS.of_cells (by simpa using r) t (λj x p=>by
   have E:=(List.getElem?_eq_some_iff.1 p).1
   have S:=(List.getElem?_eq_some_iff.1 p).2
   show List.take 1 (List.drop (j*1) _)=_
   grind [List.drop_eq_getElem_cons]) R
  have E:s.data.toList.length=s.size:=by simp
  refine lO G F (λq S=> ?_) (h w.heap.size gc m' _ K M g)
  grind [Go.execOp,cT,Go.Sem.run_bind,Go.Result.andThen_ok,Go.Sem.run_pure]
 cases f
theorem CJ{f:FuncId}{args:Array Value}{R:Ending->World->Prop}(I:Value->World->Prop)(a:∀v w',I v w'->R (.returned v) w')(h:Calls P f args w λe w'=>∃v,e= .returned v/\I v w'):Calls P f args w R:=
 h.mono λe w' ⟨v,b,hi⟩=>b▸a v w' hi
theorem HK{k:Nat}{fn:Func}{R:Ending->World->Prop}(rvs:List ResultVar)(vs:List Value)(a:fn.results=rvs.toArray)(b:ResAll P w L rvs vs)(h:R (.returned (sA vs)) w):X ⟨k,[]⟩ (bodyPost P fn R) .normal L w:=qI (P:=P) (fn:=fn) (R:=R) rvs vs a b h
end
end Go.Dc
end
namespace Go.Dc
section
def OF(P:Program)(fn:Func)(R:Ending->World->Prop):Exit->Act->World->Prop
 | .normal,a,w=>LeavesInM Fence.wide 0 P fn a.tmps R a.defers .returning w
 | .ret,a,w=>LeavesInM Fence.wide 0 P fn a.tmps R a.defers .returning w
 |_,_,_=>False
variable {ρ:Option Nat} {P:Program} {n:Fr} {ops:Array Oper} {Q:Exit->Act->World->Prop} {i d:Nat} {L:bO} {w:World} {m:Mem} {own:List Piece} {N:bO->World->Prop}
theorem qFa{f:FuncId}{fn:Func}{c:Code}{args:Array Value}{R:Ending->World->Prop}(g:P.funcs[f]? =some fn)(d:fn.body=some c){k:Nat}(q:fn.ntmps=k)(L:bO)
  (b:L.map (λp=>(args[p.1]?))=L.map λp=>some p.2) (o:Nat.ble args.size k=true) (h:W none P ⟨k,[]⟩ c (OF P fn R) L w):Calls P f args w R:=by
 refine callsIn_wide.1 (callsIn_of_wp_marks (F:=Fence.wide) (n:=0) g d trivial (wpIn_mono (h _ ⟨?_,rfl,?_⟩) ?_) rfl)
 .simp_all
 .intro t v l
  have:=(fM.1 b) (t,v) (GU l)
  grind
 intro e a w h
 cases e<;>first|exact h|exact h.elim
theorem qKd{k D:Nat}{M:List Deferred}{fn:Func}{R:Ending->World->Prop}(st:St m (.blk D (.deferred (some []))::own) w)(h:∀w',St m own w'->X ⟨k,M⟩ (OF P fn R) .ret L w'):X ⟨k,NR D::M⟩ (OF P fn R) .ret L w:=by
 intro a f
 obtain⟨c,d,e⟩:=f
 have b:w.heap[D]? =some (.deferred (some [])):=st.head.1
 have g:=tP b
 have st':St m (.blk D (.deferred none)::own) (w.putObj D (.deferred none)):=
  St.set (o:= .deferred (some [])) (o':= .deferred none) st ⟨⟨rfl,rfl⟩,rfl,mQ⟩ (by grind [Go.World.putObj]) (λk _ l=>by grind [Go.World.putObj])
 have st':=st'.tail
 have:=h _ st' {a with defers:=M} ⟨c,rfl,e⟩
 show LeavesInM Fence.wide 0 P fn a.tmps R a.defers .returning w
 rw[d]
 exact⟨by simp,.inl ⟨D,_,rfl,run_takeDeferred b,this⟩⟩
theorem qKe{k:Nat}{fn:Func}{R:Ending->World->Prop}(rvs:List ResultVar)(vs:List Value)(e:fn.results=rvs.toArray)(f:ResAll P w L rvs vs)(h:R (.returned (sA vs)) w):X ⟨k,[]⟩ (OF P fn R) .ret L w:=by
 intro a d
 obtain⟨b,c⟩:=qI (P:=P) (fn:=fn) (R:=R) rvs vs e f h a d
 show LeavesInM Fence.wide 0 P fn a.tmps R a.defers .returning w
 rw[b]
 exact c
structure LoopQ where
 fn:Nat
 tmps:Array Value
 ps:Array Tmp
 assign:Code
 body:Code
 D:Nat
def VF:List Code->Nat->Option Code
 |_,0=>none
 |js,k+1=>js[k]?
def zD(q:LoopQ)(s:LoopState)(pe:Option Code):Loop:={state:=s,pending:=pe,fn:=q.fn,tmps:=q.tmps,params:=q.ps,assign:=q.assign,body:=q.body,defers:=q.D}
def sW(l:Nat)(q:LoopQ)(js:List Code)(j:Nat):Piece:= .blk l (.loop (zD q (if j=0 then .ready else .done) (VF js j)))
def Bg(l:Nat)(q:LoopQ):Piece:= .blk l (.loop (zD q .busy none))
def yJ(D:Nat):Piece:= .blk D (.deferred (some []))
def FitsT(sz:Nat)(T:Array Value)(L:bO):Prop:=T.size=sz/\∀t v,look L t=some v->T[t]? =some v
theorem St.setLoop{l:Nat}{r:Loop}(r':Loop)(st:St m (.blk l (.loop r)::own) w):St m (.blk l (.loop r')::own) (w.putObj l (.loop r')):=by
 have a:=tP st.head.1
 exact St.set (o:= .loop r) (o':= .loop r') st ⟨⟨rfl,rfl⟩,rfl,mQ⟩ (by grind [Go.World.putObj]) (λk _ b=>by grind [Go.World.putObj])
theorem qCx {f : FuncId} {fn : Func} (c : P.funcs[f]? = some fn) (h : (fn.name == "runtime.NumGoroutine", fn.body.isNone) = (false, false)) (args : Array Value) (w : World) : (callFunc f args).run P w = .ok (.enter f args) w := by
 simp only[Prod.mk.injEq] at h
 have a : ¬ fn.name = "runtime.NumGoroutine" := by simpa using h.1
 have b:¬fn.body=none:=λe=>by grind
 simp[callFunc,c,a,b]
def Rv(l:Nat)(P:Program)(n:Fr)(Q:Exit->Act->World->Prop)(L:bO)(w:World):Prop:=
 ∃j w',(Instr.endLoop l).run P w= .ok j w'/\match j with
  |none=>X n Q .normal L w'
  |some c=>W none P n c Q L w'
theorem qBc{l:Nat}{q:LoopQ}{js:List Code}(j:Nat)(st:St m (sW l q js j::own) w)(b:VF js j=none)(h:∀w',St m own w'->X n Q .normal L w'):Rv l P n Q L w:=by
 have c:=st.head.1
 have a:(zD q (if j=0 then LoopState.ready else LoopState.done) (VF js j)).state≠LoopState.busy:=by grind [zD]
 exact⟨VF js j,_,run_endLoop (P:=P) c a,by rw[b];exact h _ (St.setLoop _ st).tail⟩
theorem Zr{g:Operand}{ps:Array Tmp}{assign body:Code}{f:Nat}{cap:Array Value}(js:List Code)(x:bS L g=some (.func (.func f) #[] cap))(eg:∀args w,(callFunc f args).run P w= .ok (.enter f args) w)(st:St m own w)
  (h:∀(q:LoopQ) (l:Nat) (w':World),q.ps=ps->q.assign=assign->q.body=body->FitsT n.sz q.tmps L->St m (sW l q js 0::yJ q.D::own) w'->
   Calls P f (#[.func (.yield l) #[] #[]]++cap) w' λe w''=>∃v,e= .returned v/\Rv l P ⟨n.sz,NR q.D::n.marks⟩ Q L w''):
  W none P n (.rangeFunc g ps assign body) Q L w:=by
 intro a b
 have r:=b.ev x
 refine wpIn_rangeFunc λfn _=> ?_
 obtain⟨q,hq⟩:∃q:LoopQ,q={fn,tmps:=a.tmps,ps,assign,body,D:=w.heap.size}:=⟨_,rfl⟩
 have y:=st.alloc (w':=w.alloc (.deferred (some []))) (o:= .deferred (some [])) ⟨⟨rfl,rfl⟩,rfl,mQ⟩ rfl
 have t:=y.alloc (w':=(w.alloc (.deferred (some []))).alloc (.loop (zD q .ready none))) (o:= .loop (zD q .ready none)) ⟨⟨rfl,rfl⟩,rfl,mQ⟩ rfl
 have s:(w.alloc (.deferred (some []))).heap.size=w.heap.size+1:=World.size_alloc _ _
 rw[s] at t
 have k:q.D=w.heap.size:=by rw[hq]
 have p:=h q (w.heap.size+1) _ (by rw[hq]) (by rw[hq]) (by rw[hq]) (by rw[hq];exact⟨b.1,b.2.2⟩) (by rw[yJ,k];exact t)
 obtain⟨W1,hW1⟩:∃W1,(w.alloc (.deferred (some []))).alloc (.loop (zD q .ready none))=W1:=⟨_,rfl⟩
 rw[hW1] at p
 refine⟨w.heap.size+1,[NR w.heap.size],W1,{target:= .fn (.func f) cap,args:= #[.func (.yield (w.heap.size+1)) #[] #[]]},W1,f,#[.func (.yield (w.heap.size+1)) #[] #[]]++cap,W1,?_,?_,λ_ _=>trivial,?_,λe=>by grind [iK,Go.Fence.wide],?_⟩
 .rw[<-hW1,hq];exact run_enterLoop_outer _ _ _ _ _
 .simp only[resolve,r]
  simp[go_sem]
 .grind [Go.invoke]
 have hc':CallsIn (iK none) 0 P f (#[.func (.yield (w.heap.size+1)) #[] #[]]++cap) W1 _:=callsIn_wide.2 p
 refine CallsIn.mono hc' ?_
 rintro e w'' ⟨v,rfl,j,z,u,d⟩
 refine⟨j,z,u,?_⟩
 have fits:Fits ⟨n.sz,NR q.D::n.marks⟩ {a with defers:=[NR w.heap.size]++a.defers} L:=⟨b.1,by simp[b.2.1,k],b.2.2⟩
 cases j with
 |none=>exact d _ fits
 |some c=>exact d _ fits
def Bh(P:Program)(l:Nat)(body:Code)(R:Ending->World->Prop):Exit->Act->World->Prop:=
 Exit.then (λa₁ w₁=>∃w₂,(Instr.beginRound l).run P w₁= .ok () w₂/\body.wpIn (iK (some l)) 0 P (roundPost P l R) a₁ w₂) (λ_ _ _=>False)
theorem qIg{l:Nat}{q:LoopQ}{js:List Code}{body:Code}{R:Ending->World->Prop}(st:St m (sW l q js 0::own) w)(h:∀w',St m (Bg l q::own) w'->W (some l) P n body (roundPost P l R) L w'):X n (Bh P l body R) .normal L w:=by
 intro a b
 exact⟨_,run_beginRound (P:=P) st.head.1 rfl,h _ (St.setLoop _ st) a b⟩
theorem Xz{l:Nat}{q:LoopQ}(js:List Code)(st:St m (Bg l q::own) w):∃w',(Instr.endRound l none).run P w= .ok (.bool true) w'/\St m (sW l q js 0::own) w':=
 ⟨_,run_endRound (P:=P) none st.head.1,St.setLoop (zD q .ready none) st⟩
theorem qFp{l:Nat}{q:LoopQ}(js:List Code){R:Ending->World->Prop}(st:St m (Bg l q::own) w)(h:∀w',St m (sW l q js 0::own) w'->R (.returned (.bool true)) w'):X n (roundPost P l R) .normal L w:=by
 obtain⟨w',a,b⟩:=Xz (P:=P) js st
 exact λ_ _=>⟨_,w',a,h w' b⟩
def HV:List Nat->List Value->bO->bO
 |p::ps,v::vs,L=>HV ps vs ((p,v)::L)
 |_,_,L=>L
theorem FitsT.set{sz:Nat}{T:Array Value}{L:bO}(h:FitsT sz T L){p:Nat}(c:p<sz)(v:Value):FitsT sz (T.setIfInBounds p v) ((p,v)::L):=by
 obtain⟨a,b⟩:=h
 refine⟨by simp[a],λt u d=> ?_⟩
 grind [look,Nat.beq_eq]
theorem FitsT.zip{sz:Nat}:∀(ps:List Nat) (vs:List Value) {T:Array Value} {L:bO},FitsT sz T L->(ps.all λp=>Nat.blt p sz)=true->
  FitsT sz ((ps.zip vs).foldl (λt (p,v)=>t.setIfInBounds p v) T) (HV ps vs L)
 |[],_,_,_,h,_=>by simpa[HV] using h
 |_::_,[],_,_,h,_=>by simpa[HV] using h
 |p::ps,v::vs,T,L,h,a=>by
  simp only[fF,jU] at a
  simp only[List.zip_cons_cons,kI,HV]
  exact FitsT.zip ps vs (h.set (by simpa[Nat.blt_eq] using a.1) v) a.2
theorem qCv{l sz:Nat}{x:Operand}{xs:Array Operand}{ts:Array TypeId}{q:LoopQ}{js:List Code}{L0:bO}{ps:Array Nat}{assign body:Code}(vs:List Value)(K:dH ops L i=some (some d,.call {callee:= .value x,args:=xs,argTypes:=ts}))(H:Nat.blt d n=true)
  (S:bS L x=some (.func (.yield l) #[] #[])) (k:xs.map (nX L)=vs.toArray) (G:FitsT sz q.tmps L0) (M:q.ps=ps) (D:q.assign=assign) (E:q.body=body) (r:vs.length=ps.size) (s:(ps.toList.all λp=>Nat.blt p sz)=true) (st:St m (sW l q js 0::own) w)
  (h:∀R:Ending->World->Prop,(∀b w',N ((d,.bool b)::L) w'->R (.returned (.bool b)) w')->W (some l) P ⟨sz,[]⟩ assign (Bh P l body R) (HV ps.toList vs L0) w):dZ P n ops Q i N L w:=by
 subst M D E
 obtain⟨o,u,y,z,A,B⟩:=GQ K
 intro a f
 unfold oZ
 simp only[u,f.wanted A,jJ]
 have U:=run_yield (P:=P) (args:=vs.toArray) st.head.1 (by grind [zD])
 have g:(execOp (nX L) o).run P w=(Instr.yield l vs.toArray).run P w:=by
  simp[execOp,z,resolve,cT S,k,invoke,go_sem]
 rw[f.exec B,g,U,Oper.uponIn_round]
 refine⟨λe=>by grind [Go.Fence.wide],roundIn_of_wpIn trivial ?_⟩
 have r:=FitsT.zip q.ps.toList vs G s
 have c:(q.ps.zip vs.toArray).foldl (λtmps (t,a)=>tmps.setIfInBounds t a) q.tmps=(q.ps.toList.zip vs).foldl (λt (p,v)=>t.setIfInBounds p v) q.tmps:=by
  grind [Array.toList_zip]
 refine h _ ?_ {tmps:=_,defers:=[]} ⟨?_,rfl,?_⟩
 .intro b w' F
  rw[y]
  exact⟨_,f.put H _,F⟩
 .show((q.ps.zip vs.toArray).foldl (λtmps (t,a)=>tmps.setIfInBounds t a) q.tmps).size=_
  rw[c];exact r.1
 intro t v k
 show((q.ps.zip vs.toArray).foldl (λtmps (t,a)=>tmps.setIfInBounds t a) q.tmps)[t]? =_
 rw[c];exact r.2 t v k
end
end Go.Dc
section
namespace Go.Dc
def dX{κ ν:Type}[DecidableEq κ]:List (κ×ν)->κ->Option ν
 |[],_=>none
 |p::l,k=>if k=p.1 then some p.2 else dX l k
def pK{κ ν:Type}[DecidableEq κ]:List (κ×ν)->κ->ν->List (κ×ν)
 |[],k,v=>[(k,v)]
 |p::l,k,v=>if k=p.1 then(k,v)::l else p::pK l k v
class KOrd(κ:Type) where
 lt:κ->κ->Bool
instance:KOrd Int:=⟨λa b=>decide (a<b)⟩
instance:KOrd BA:=⟨λa b=>decide (a.data.toList<b.data.toList)⟩
instance{α β:Type}[DecidableEq α][KOrd α][KOrd β]:KOrd (α×β):=⟨λa b=>KOrd.lt a.1 b.1||(decide (a.1=b.1)&&KOrd.lt a.2 b.2)⟩
def mins{κ ν:Type}[KOrd κ]:List (κ×ν)->κ->ν->List (κ×ν)
 |[],k,v=>[(k,v)]
 |p::l,k,v=>if KOrd.lt k p.1 then(k,v)::p::l else p::mins l k v
def mset{κ ν:Type}[DecidableEq κ][KOrd κ](l:List (κ×ν))(k:κ)(v:ν):List (κ×ν):=
 if(dX l k).isSome then l.map λp=>if k=p.1 then(k,v) else p else mins l k v
theorem YA{κ ν:Type}[DecidableEq κ]{l:List (κ×ν)}{k:κ}:dX l k=none↔k∉l.map (·.1):=by
 induction l with
 |nil=>simp[dX]
 |cons p l a=>
  grind [dX]
theorem Nl{κ ν:Type}[DecidableEq κ]{l:List (κ×ν)}{k:κ}{v:ν}(a:(l.map (·.1)).Nodup):dX l k=some v↔(k,v)∈l:=by
 induction l with
 |nil=>simp[dX]
 |cons p l b=>
  grind [dX]
theorem YK{κ ν:Type}[DecidableEq κ]{l l':List (κ×ν)}(b:l'.Perm l)(a:(l'.map (·.1)).Nodup)(k:κ):dX l' k=dX l k:=by
 have hn':(l.map (·.1)).Nodup:=(b.map _).nodup_iff.1 a
 cases h:dX l k with
 |none=>grind [YA]
 |some v=>grind [Nl]
theorem Ku{κ ν:Type}[DecidableEq κ]{l:List (κ×ν)}{k:κ}{v:ν}(h:dX l k=none):pK l k v=l++[(k,v)]:=by
 induction l with
 |nil=>rfl
 |cons p l a=>
  grind [dX,pK]
theorem Km{κ ν:Type}[DecidableEq κ]{l:List (κ×ν)}{k:κ}{v:ν}(a:(l.map (·.1)).Nodup)(h:dX l k≠none):pK l k v=l.map λp=>if k=p.1 then(k,v) else p:=by
 induction l with
 |nil=>exact absurd rfl h
 |cons p l c=>
  simp only[kO,fJ] at a
  simp only[pK,kO]
  by_cases hk:k=p.1
  .simp only[hk,jJ]
   congr 1
   rw[<-hk]
   refine(List.map_congr_left λq b=> ?_).trans (List.map_id _)|>.symm
   grind
  grind [dX]
theorem Kn{κ ν:Type}[KOrd κ](l:List (κ×ν))(k:κ)(v:ν):(mins l k v).Perm ((k,v)::l):=by
 induction l with
 |nil=>exact .refl _
 |cons p l a=>
  simp only[mins]
  split
  .exact .refl _
  exact(List.Perm.cons p a).trans (.swap _ _ _)
theorem GN{κ ν:Type}[DecidableEq κ][KOrd κ]{l l':List (κ×ν)}(a:l'.Perm l)(c:(l'.map (·.1)).Nodup)(k:κ)(v:ν):(pK l' k v).Perm (mset l k v):=by
 have b:=YK a c k
 unfold mset
 cases h:dX l k with
 |none=>
  rw[Ku (by rw[b,h])]
  simp only[Option.isSome_none,j7,jE]
  exact(List.perm_append_comm.trans (List.Perm.cons _ a)).trans (Kn l k v).symm
 |some u=>
  grind [Km]
theorem FV{κ ν:Type}[DecidableEq κ]{l:List (κ×ν)}(a:(l.map (·.1)).Nodup)(k:κ)(v:ν):((pK l k v).map (·.1)).Nodup:=by
 cases h:dX l k with
 |none=>
  grind [Ku,YA]
 |some u=>
  grind [Km]
def qU(agg:Bool)(cs:List Value):Value:=bif agg then .agg cs.toArray else cs.headD undef
def MapL{κ ν:Type}(ek:κ->Value)(c:Codec ν)(agg:Bool)(m:Mem):List MapEntry->List (κ×ν)->Prop
 |[],l=>l=[]
 |e::es,l=>∃k v l',l=(k,v)::l'/\e.key=ek k/\(∃cs,c.rep m v cs/\e.val=qU agg cs)/\MapL ek c agg m es l'
def Se(es:List MapEntry)(ck:Nat):Prop:=(∀e∈es,e.born<ck)/\(es.map (·.born)).Nodup
def MapQ{κ ν:Type}(ek:κ->Value)(c:Codec ν)(agg:Bool)(m:Mem)(q:Option Nat)(es:Array MapEntry)(ck:Nat)(o:Option (List (κ×ν))):Prop:=
 match q with
 |none=>o=none
 |some _=>∃l l',o=some l/\l'.Perm l/\(l'.map (·.1)).Nodup/\MapL ek c agg m es.toList l'/\Se es.toList ck
theorem MapL.mono{κ ν:Type}{ek:κ->Value}{c:Codec ν}{agg:Bool}{m m':Mem}(a:m.le m'):∀{es:List MapEntry} {l:List (κ×ν)},MapL ek c agg m es l->MapL ek c agg m' es l
 |[],_,h=>h
 |_::_,_,⟨k,v,l',b,d,⟨cs,e,f⟩,g⟩=>⟨k,v,l',b,d,⟨cs,c.mono _ _ _ _ a e,f⟩,g.mono a⟩
theorem MapQ.mono{κ ν:Type}{ek:κ->Value}{c:Codec ν}{agg:Bool}{m m':Mem}{q:Option Nat}{es:Array MapEntry}{ck:Nat}{o:Option (List (κ×ν))}(h:MapQ ek c agg m q es ck o)(a:m.le m'):MapQ ek c agg m' q es ck o:=by
 cases q with
 |none=>exact h
 |some b=>obtain⟨l,l',d,e,f,g,k⟩:=h;exact⟨l,l',d,e,f,g.mono a,k⟩
def HN{κ:Type}[DecidableEq κ](k:κ):List κ->List MapEntry->Nat->Option (Nat×Value)
 |k'::ks,e::es,i=>if k=k' then some (i,e.val) else HN k ks es (i+1)
 |_,_,_=>none
structure KeyOK{κ:Type}[DecidableEq κ](P:Program)(kt:TypeId)(ek:κ->Value):Prop where
 find:∀(k:κ) (ks:List κ) (es:List MapEntry) (w:World),es.map (·.key)=ks.map ek->(Instr.findKey kt (ek k) es).run P w= .ok (HN k ks es 0) w
 chk:∀(e:Bool) (a:κ) (w:World),(Instr.checkKey e 10000 kt (ek a)).run P w= .ok () w
 stay:∀(a:κ) (w:World),(Instr.keyThatStays (ek a) (ek a)).run P w= .ok (ek a) w
 inj:∀a b,ek a=ek b->a=b
theorem Ik{κ:Type}[DecidableEq κ]{dd:TypeDesc}{ek:κ->Value}(c:∀a b,Instr.sameNow dd (ek a) (ek b)=some (decide (a=b)))(k:κ):∀(ks:List κ) (es:List MapEntry) (j:Nat),es.map (·.key)=ks.map ek->Instr.findNow dd (ek k) es j=some (HN k ks es j)
 |[],[],j,_=>rfl
 |[],e::es,j,h=>by simp at h
 |k'::ks,[],j,h=>by simp at h
 |k'::ks,e::es,j,h=>by
  simp only[kO,fL] at h
  simp only[Instr.findNow,h.1,c,HN]
  by_cases hkk:k=k'
  .subst hkk;simp
  simp only[hkk,decide_false,jE]
  exact Ik c k ks es (j+1) h.2
theorem qJr{P:Program}{kt:TypeId}{q q':IntKind}(h:P.underlying kt=some (.int q))(e:Bool)(z:Int)(w:World):∀n,(Instr.checkKey e (n+1) kt (.int q' z)).run P w= .ok () w:=λn=>by simp[Instr.checkKey,run_underlying h]
theorem qJp{κ:Type}[DecidableEq κ]{P:Program}{kt:TypeId}{ek:κ->Value}{d:TypeDesc}(l:P.underlying kt=some d)(c:∀a b,Instr.sameNow d (ek a) (ek b)=some (decide (a=b)))
  (g:∀(e:Bool) (a:κ) (w:World),(Instr.checkKey e 10000 kt (ek a)).run P w= .ok () w) (f:∀n a,Instr.sameBits n (ek a) (ek a)=true):KeyOK P kt ek where
 find k ks es w h:=by simp[Instr.findKey,run_underlying l,Ik c k ks es 0 h]
 chk:=g
 stay a w:=by simp[Instr.keyThatStays,f]
 inj a b h:=by
  have o:=c a b
  grind
theorem uX{P:Program}{kt:TypeId}{q:IntKind}(h:P.underlying kt=some (.int q)):KeyOK P kt (λn:Int=>Value.int q n):=
 qJp h (λa b=>by grind [Go.Instr.sameNow]) (λe v w=>qJr h e v w 9999) (λn a=>by grind [Go.Instr.sameBits])
section
variable {m:Mem} {κ ν:Type} {ek:κ->Value} {c:Codec ν} {agg:Bool}
theorem MapL.snoc:∀{es:List MapEntry} {l:List (κ×ν)} {e:MapEntry} {k:κ} {y:ν} {cs:List Value},MapL ek c agg m es l->e.key=ek k->c.rep m y cs->e.val=qU agg cs->MapL ek c agg m (es++[e]) (l++[(k,y)])
 |[],l,e,k,y,cs,h,a,b,d=>by
  grind [MapL]
 |e'::es,l,e,k,y,cs,⟨k',v',l',f,g,n,o⟩,a,b,d=>by
  subst f
  exact⟨k',v',l'++[(k,y)],rfl,g,n,o.snoc a b d⟩
theorem MY:∀{es:List MapEntry} {l:List (κ×ν)},MapL ek c agg m es l->es.map (·.key)=(l.map (·.1)).map ek
 |[],l,h=>by grind [MapL]
 |e::es,l,⟨k',v',l',a,b,_,d⟩=>by subst a;simp only[kO,b,MY d]
theorem MapQ.new(ek:κ->Value)(c:Codec ν)(agg:Bool)(m:Mem)(b:Nat):MapQ ek c agg m (some b) #[] 0 (some []):=⟨[],[],rfl,.refl _,by simp,rfl,by simp[Se]⟩
theorem MapQ.nil(ek:κ->Value)(c:Codec ν)(agg:Bool)(m:Mem)(es:Array MapEntry)(ck:Nat):MapQ ek c agg m none es ck (none:Option (List (κ×ν))):=rfl
end
section
variable {P:Program} {n:Fr} {ops:Array Oper} {Q:Exit->Act->World->Prop} {i d:Nat} {L:bO} {w:World} {m:Mem} {own:List Piece} {N:bO->World->Prop}
variable {κ ν:Type} [DecidableEq κ] {ek:κ->Value} {c:Codec ν} {agg:Bool}
theorem TB(k:κ):∀(es:List MapEntry) (l:List (κ×ν)) (j:Nat),MapL ek c agg m es l->
  ∃r,HN k (l.map (·.1)) es j=r/\match r with
   |none=>dX l k=none/\pK l k=λv=>l++[(k,v)]
   |some (q,v)=>∃x cs,dX l k=some x/\c.rep m x cs/\v=qU agg cs/\j<=q/\q<j+es.length/\(∃e,es[q-j]? =some e/\e.key=ek k)/\
     ∀(y:ν) (cs':List Value) (f:MapEntry->MapEntry),c.rep m y cs'->(∀e,(f e).key=ek k/\(f e).val=qU agg cs')->MapL ek c agg m (es.modify (q-j) f) (pK l k y)
 |[],l,j,h=>by
  simp only[MapL] at h;subst h
  exact⟨none,rfl,rfl,by funext v;rfl⟩
 |e::es,l,j,h=>by
  obtain⟨k',v',l',rfl,n,⟨cs,o,p⟩,s⟩:=h
  simp only[kO,HN]
  by_cases hkk:k=k'
  .subst hkk
   simp only[jJ]
   refine⟨_,rfl,v',cs,by simp[dX],o,p,jH _,by simp,⟨e,by simp,n⟩,?_⟩
   intro y cs' f d a
   simp only[Nat.sub_self,List.modify_zero_cons,pK,jJ]
   exact⟨k,y,l',rfl,(a e).1,⟨cs',d,(a e).2⟩,s⟩
  simp only[hkk,jE]
  obtain⟨r,E,b⟩:=TB k es l' (j+1) s
  refine⟨r,E,?_⟩
  cases r with
  |none=>
   grind [dX,pK]
  |some qv=>
   obtain⟨q,v⟩:=qv
   obtain⟨x,g,F,u,z,G,H,⟨t,K,A⟩,B⟩:=b
   have D:q-j=(q-(j+1))+1:=by omega
   refine⟨x,g,by grind [dX],u,z,by omega,by simp;omega,⟨t,by grind,A⟩,?_⟩
   intro y cs' f d a
   rw[D]
   simp only[List.modify_succ_cons,pK,jA hkk]
   exact⟨k',v',_,rfl,n,⟨cs,o,p⟩,B y cs' f d a⟩
def HE(P:Program)(t:TypeId):Option (TypeId×TypeId×Value):=
 match P.underlying t with
 |some (.map k e)=>match P.info? e with
  |some i=>i.zero.map λz=>(k,e,z)
  |none=>none
 |_=>none
theorem XN{t kt et:TypeId}{z:Value}(h:HE P t=some (kt,et,z)):P.underlying t=some (.map kt et)/\∀w:World,(zeroValue et).run P w= .ok z w:=by
 unfold HE at h
 split at h
 .rename_i k e he
  split at h
  .rename_i inf hi
   obtain⟨z',b,a⟩:=jK.1 h
   simp only[Prod.mk.injEq] at a
   obtain⟨rfl,rfl,rfl⟩:=a
   exact⟨he,λw=>by simp[zeroValue,typeInfo,hi,b]⟩
  cases h
 cases h
def lI(q:Option Nat)(es:Array MapEntry)(ck:Nat):Piece:=
 match q with
 |none=> .room none 0 0 0 0
 |some b=> .blk b (.map es ck)
def rR(o:Option (List (κ×ν)))(k:κ):Option ν:=o.bind λl=>dX l k
def qZ[KOrd κ](o:Option (List (κ×ν)))(k:κ)(v:ν):Option (Option (List (κ×ν))):=o.map λl=>some (mset l k v)
theorem Gs{t:TypeId}(c:dH ops L i=some (some d,.makeMap t none))(a:Nat.blt d n=true)(st:St m own w)
  (h:∀b w',St m (lI (some b) #[] 0::own) w'->N ((d,.map (some b))::L) w'):dZ P n ops Q i N L w:=by
 refine lO (w':=w.alloc (.map #[] 0)) c a (λq e=> ?_) (h w.heap.size _ (st.alloc ⟨⟨rfl,rfl⟩,rfl,mQ⟩ rfl))
 simp[execOp,e,Instr.makeMap]
theorem qAf{t kt et:TypeId}{z:Value}(D:HE P t=some (kt,et,z))(p:KeyOK P kt ek){q:Option Nat}{es:Array MapEntry}{ck:Nat}{o:Option (List (κ×ν))}(E:Piece.holds m w (lI q es ck))(f:MapQ ek c agg m q es ck o)
  {zx:ν} {zcs:List Value} (G:c.rep m zx zcs) (B:z=qU agg zcs) (k:κ) (ok:Bool):
  ∃cs,c.rep m ((rR o k).getD zx) cs/\(Instr.lookup t (.map q) (ek k) ok).run P w= .ok (bif ok then .tuple #[qU agg cs,.bool (rR o k).isSome] else qU agg cs) w:=by
 obtain⟨u,y⟩:=XN D
 have main:∀(es:List MapEntry) (l:List (κ×ν)),MapL ek c agg m es l->∃cs r,c.rep m ((dX l k).getD zx) cs/\(Instr.findKey kt (ek k) es).run P w= .ok r w/\
   (match r with|some (_,v)=>v=qU agg cs/\(dX l k).isSome=true|none=>qU agg cs=z/\(dX l k).isSome=false):=by
  intro es l h
  obtain⟨r,f,d⟩:=TB (c:=c) (agg:=agg) k es l 0 h
  cases r with
  |none=>exact⟨zcs,none,by grind,by rw[p.find k _ es w (MY h),f],B.symm,by simp[d.1]⟩
  |some qv=>
   obtain⟨q,v⟩:=qv
   obtain⟨x,cs,g,e,a,_⟩:=d
   exact⟨cs,some (q,v),by simp[g,e],by rw[p.find k _ es w (MY h),f],a,by simp[g]⟩
 cases q with
 |none=>
  simp only[MapQ] at f
  subst f
  obtain⟨cs,r,g,e,a⟩:=main [] [] rfl
  refine⟨cs,by grind [rR,dX],?_⟩
  have n:=p.chk true k w
  cases r with
  |none=>cases ok<;>simp[Instr.lookup,run_underlying u,n,e,y,a.1,rR]
  |some r=>grind [dX]
 |some b=>
  obtain⟨H,l,rfl,s,A,h,_⟩:=f
  obtain⟨cs,r,g,e,a⟩:=main es.toList l h
  rw[YK s A] at g a
  refine⟨cs,by grind [rR],?_⟩
  have F:w.heap[b]? =some (.map es ck):=E.1
  have d:(getObj b).run P w= .ok (.map es ck) w:=by grind [Go.getObj,Go.Sem.run]
  have n:=p.chk es.isEmpty k w
  cases r with
  |none=>cases ok<;>simp[Instr.lookup,run_underlying u,d,n,e,y,a.1,a.2,rR]
  |some r=>
   obtain⟨_,v⟩:=r
   cases ok<;>simp[Instr.lookup,run_underlying u,d,n,e,a.1,a.2,rR]
theorem Hn{t kt et:TypeId}{z:Value}{x y:Operand}{q:Option Nat}{es:Array MapEntry}{ck:Nat}{o:Option (List (κ×ν))}{k:κ}{ok:Bool}(p:dH ops L i=some (some d,.lookup t x y ok))(g:Nat.blt d n=true)
  (v:bS L x=some (.map q)) (A:bS L y=some (ek k)) (f:HE P t=some (kt,et,z)) (l:KeyOK P kt ek) (r:Piece.holds m w (lI q es ck)) (u:MapQ ek c agg m q es ck o)
  {zx:ν} {zcs:List Value} (B:c.rep m zx zcs) (a:z=qU agg zcs)
  (h:∀cs,c.rep m ((rR o k).getD zx) cs->N ((d,bif ok then .tuple #[qU agg cs,.bool (rR o k).isSome] else qU agg cs)::L) w):dZ P n ops Q i N L w:=by
 obtain⟨cs,b,e⟩:=qAf f l r u B a k ok
 refine lO p g (λq s=> ?_) (h cs b)
 simp[execOp,s,cT v,cT A,e]
theorem Ix{b:Nat}{o o':Obj}(a:w.heap[b]? =some o)(c:∀cs e f,o≠ .cells cs e f):(setObj b o').run P w= .ok () {w with heap:=w.heap.setIfInBounds b o'}:=by
 grind [Go.setObj,Go.Sem.run]
theorem Yf[KOrd κ]{t kt et:TypeId}{z v:Value}{x y u:Operand}{q:Option Nat}{es:Array MapEntry}{ck:Nat}{o o':Option (List (κ×ν))}{k:κ}{yv:ν}{cs:List Value}(U:dH ops L i=some (none,.mapUpdate t x y u))
  (Z:bS L x=some (.map q)) (hy:bS L y=some (ek k)) (Y:bS L u=some v) (hI:HE P t=some (kt,et,z)) (D:KeyOK P kt ek) (st:St m (lI q es ck::own) w) (G:MapQ ek c agg m q es ck o)
  (a0:c.rep m yv cs) (hv:v=qU agg cs) (V:qZ o k yv=some o')
  (h:∀es' ck' w',St m (lI q es' ck'::own) w'->MapQ ek c agg m q es' ck' o'->N L w'):dZ P n ops Q i N L w:=by
 obtain⟨K,h2⟩:=XN hI
 cases q with
 |none=>grind [MapQ,qZ]
 |some b=>
  obtain⟨l0,l,rfl,f,d,F,a2,a3⟩:=G
  simp only[qZ,gJ,jM] at V
  subst V
  have M:w.heap[b]? =some (.map es ck):=st.head.1
  have S:=tP M
  have s:(getObj b).run P w= .ok (.map es ck) w:=by grind [Go.getObj,Go.Sem.run]
  have B:∀o',(setObj b o').run P w= .ok () {w with heap:=w.heap.setIfInBounds b o'}:=λo'=>Ix M ad
  have A:∀o',St m (.blk b o'::own) {w with heap:=w.heap.setIfInBounds b o'}:=λo'=>
   St.set (o:= .map es ck) st ⟨⟨rfl,rfl⟩,rfl,mQ⟩ (by simp[S]) (λk _ D=>by grind)
  have R:=D.chk false k w
  obtain⟨r,G,g⟩:=TB (c:=c) (agg:=agg) k es.toList l 0 F
  have a:(Instr.findKey kt (ek k) es.toList).run P w= .ok r w:=by rw[D.find k _ es.toList w (MY F),G]
  cases r with
  |none=>
   obtain⟨g1,H⟩:=g
   refine CP U (λq E=> ?_) (h (es.push {key:=ek k,val:=v,born:=ck}) (ck+1) _ (A _) ⟨_,pK l k yv,rfl,GN f d k yv,FV d k yv,?_,?_,?_⟩)
   .simp[execOp,E,cT Z,cT hy,cT Y,Instr.mapUpdate,run_underlying K,s,R,a,B]
   .rw[H,Array.toList_push]
    exact F.snoc rfl a0 hv
   .grind
   grind
  |some qv=>
   obtain⟨q,v0⟩:=qv
   obtain⟨x0,a1,g1,H,g3,g4,g5,⟨e0,g6,g7⟩,g8⟩:=g
   have he:es[q]? =some e0:=by simpa using g6
   have E:(Instr.keyThatStays (ek k) (ek k)).run P w= .ok (ek k) w:=D.stay k w
   refine CP U (λp hp=> ?_) (h (es.modify q λe=>{e with key:=ek k,val:=v}) ck _ (A _) ⟨_,pK l k yv,rfl,GN f d k yv,FV d k yv,?_,?_,?_⟩)
   .simp[execOp,hp,cT Z,cT hy,cT Y,Instr.mapUpdate,run_underlying K,s,R,a,he,g7,E,B]
   .grind
   .grind [List.mem_iff_getElem]
   rw[Array.toList_modify]
   have:(es.toList.modify q λe=>{e with key:=ek k,val:=v}).map (·.born)=es.toList.map (·.born):=by
    apply List.ext_getElem
    .simp
    grind
   grind
theorem AD[KOrd κ]{t kt et:TypeId}{z v:Value}{x y u:Operand}{q:Option Nat}{es:Array MapEntry}{ck:Nat}{o o':Option (List (κ×ν))}{k:κ}{yv:ν}{cs:List Value}(U:dH ops L i=some (none,.insert t x y u))
  (Z:bS L x=some (.map q)) (hy:bS L y=some (ek k)) (Y:bS L u=some v) (hI:HE P t=some (kt,et,z)) (D:KeyOK P kt ek) (st:St m (lI q es ck::own) w) (G:MapQ ek c agg m q es ck o)
  (a0:c.rep m yv cs) (hv:v=qU agg cs) (V:qZ o k yv=some o')
  (h:∀es' ck' w',St m (lI q es' ck'::own) w'->MapQ ek c agg m q es' ck' o'->N L w'):dZ P n ops Q i N L w:=by
 obtain⟨K,h2⟩:=XN hI
 cases q with
 |none=>grind [MapQ,qZ]
 |some b=>
  obtain⟨l0,l,rfl,f,d,F,a2,a3⟩:=G
  simp only[qZ,gJ,jM] at V
  subst V
  have M:w.heap[b]? =some (.map es ck):=st.head.1
  have S:=tP M
  have s:(getObj b).run P w= .ok (.map es ck) w:=by grind [Go.getObj,Go.Sem.run]
  have B:∀o',(setObj b o').run P w= .ok () {w with heap:=w.heap.setIfInBounds b o'}:=λo'=>Ix M ad
  have A:∀o',St m (.blk b o'::own) {w with heap:=w.heap.setIfInBounds b o'}:=λo'=>
   St.set (o:= .map es ck) st ⟨⟨rfl,rfl⟩,rfl,mQ⟩ (by simp[S]) (λk _ D=>by grind)
  have R:=D.chk false k w
  obtain⟨r,G,g⟩:=TB (c:=c) (agg:=agg) k es.toList l 0 F
  have a:(Instr.findKey kt (ek k) es.toList).run P w= .ok r w:=by rw[D.find k _ es.toList w (MY F),G]
  cases r with
  |none=>
   obtain⟨g1,H⟩:=g
   refine CP U (λq E=> ?_) (h (es.push {key:=ek k,val:=v,born:=ck}) (ck+1) _ (A _) ⟨_,pK l k yv,rfl,GN f d k yv,FV d k yv,?_,?_,?_⟩)
   .simp[execOp,E,cT Z,cT hy,cT Y,Instr.mapUpdate,run_underlying K,s,R,a,B]
   .rw[H,Array.toList_push]
    exact F.snoc rfl a0 hv
   .grind
   grind
  |some qv=>
   obtain⟨q,v0⟩:=qv
   obtain⟨x0,a1,g1,H,g3,g4,g5,⟨e0,g6,g7⟩,g8⟩:=g
   have he:es[q]? =some e0:=by simpa using g6
   have E:(Instr.keyThatStays (ek k) (ek k)).run P w= .ok (ek k) w:=D.stay k w
   refine CP U (λp hp=> ?_) (h (es.modify q λe=>{e with key:=ek k,val:=v}) ck _ (A _) ⟨_,pK l k yv,rfl,GN f d k yv,FV d k yv,?_,?_,?_⟩)
   .simp[execOp,hp,cT Z,cT hy,cT Y,Instr.mapUpdate,run_underlying K,s,R,a,he,g7,E,B]
   .grind
   .grind [List.mem_iff_getElem]
   rw[Array.toList_modify]
   have:(es.toList.modify q λe=>{e with key:=ek k,val:=v}).map (·.born)=es.toList.map (·.born):=by
    apply List.ext_getElem
    .simp
    grind
   grind
end
section
variable {P:Program} {n:Fr} {ops:Array Oper} {Q:Exit->Act->World->Prop} {i d:Nat} {L:bO} {w:World} {m:Mem} {own:List Piece} {N:bO->World->Prop}
variable {α:Type} {f:α->Value}
def wX(by_:Nat)(z:α)(k:Int):Option (List α):=if 0<=k/\k*by_<=140737488355328/\k<=maxLen then some (List.replicate k.toNat z) else none
def lV(f:α->Value)(l:List α)(T:List Value):Array Value:=(l.map f++T).toArray
theorem Gy{t e by_:Nat}{x y:Operand}{z:α}{k:Int}{kd A:IntKind}{l:List α}(f:α->Value)(E:dH ops L i=some (some d,.makeSlice t x y))(D:Nat.blt d n=true)(M:bS L x=some (.int kd k))(R:bS L y=some (.int A k))
  (hi:wG P t=some (e,1,by_,1)) (r:(P.info? e).bind (·.zero)=some (f z)) (F:(f z).oneCell'=true) (st:St m own w) (g:wX by_ z k=some l)
  (h:∀b w',List.length l=Int.toNat k->St m (.blk b (.cells (lV f l []) e (0,0))::own) w'->N ((d,.slice (some ⟨b,0,none⟩) (Int.toNat k) (Int.toNat k))::L) w'):dZ P n ops Q i N L w:=by
 obtain⟨H,inf,zv,a,p,v,u,U⟩:=XC hi
 rw[a] at r
 simp only[j0,p,jM] at r
 subst r
 unfold wX at g
 split at g
 .rename_i hk
  obtain⟨V,Y,Z⟩:=hk
  simp only[jM] at g;subst g
  have S:(maxLen:Int)=9223372036854775807:=rfl
  have K:IntKind.i64.wrap k=k:=by grind [Go.IntKind.wrap,Go.IntKind.bits]
  have k2':¬(281474976710656<(by_:Int)*k):=by grind
  have c:(f z).cells= #[f z]:=by cases hv:f z<;>simp_all [Value.cells,Value.oneCell']
  have s:lV f (List.replicate k.toNat z) []=((List.replicate k.toNat z).map f).toArray:=by simp[lV]
  refine lO (w':=w.alloc (.cells ((List.replicate k.toNat z).map f).toArray e)) E D (λq G=> ?_) (h w.heap.size _ ad (by rw[s];exact st.alloc ⟨⟨rfl,rfl⟩,rfl,mQ⟩ rfl))
  simp only[execOp,G,cT M,cT R,Instr.makeSlice,Sem.run_bind,run_underlying H,Result.andThen_ok,asInt,asIntOf,typeInfo,run_program,a,Sem.run_pure,K,u]
  have B:¬(k<0):=by omega
  have o:(decide (k<0)||decide ((by_:Int)*k>2^48)||decide (k<0)||decide (k>k))=false:=by simp[B];omega
  simp only[o,j7,jE,run_askRoom,Result.andThen_ok,sizeOf,typeInfo,Sem.run_bind,run_program,a,Sem.run_pure,v,Nat.mul_one]
  by_cases h0:k.toNat=0
  .simp[h0,newRow]
   grind
  simp[h0,zeroValue,typeInfo,a,p,c,newRow,Nat.mod_one]
  congr 2
  grind
 cases g
theorem ST{t e:TypeId}{x y:Operand}{b nn cc:Nat}{l:List α}{k:IntKind}{ix:Int}{z:α}(p:dH ops L i=some (some d,.indexAddr t x y))(o:Nat.blt d n=true)
  (s:bS L x=some (.slice (some ⟨b,0,none⟩) nn cc)) (u:bS L y=some (.int k ix)) (hi:nU P t=some (e,1)) (A:List.length l=nn) (a:aO l ix=some z)
  (h:N ((d,.pointer (some ⟨b,ix.toNat,none⟩))::L) w):dZ P n ops Q i N L w:=by
 obtain⟨c,inf,f,g⟩:=wC hi
 unfold aO at a
 split at a
 .rename_i h0
  have v:ix.toNat<l.length:=(List.getElem?_eq_some_iff.1 a).1
  refine lO p o (λq r=> ?_) h
  have hlt':ix<(nn:Int):=by omega
  simp[execOp,r,Instr.indexAt,cT s,cT u,asIntOf,run_underlying c,h0,hlt',sizeOf,typeInfo,f,g,wM]
 cases a
theorem qAo{l:List α}{T:List Value}{j:Nat}{z:α}(h:l[j]? =some z):(lV f l T)[j]? =some (f z):=by
 grind [lV,List.getElem?_append_left]
theorem Zj{t e:TypeId}{x:Operand}{b:Nat}{l:List α}{T:List Value}{ix:Int}{z:α}{fr:Nat×Nat}(k:dH ops L i=some (some d,.load t x))(c:Nat.blt d n=true)
  (y:bS L x=some (.pointer (some ⟨b,ix.toNat,none⟩))) (p:Piece.holds m w (.blk b (.cells (lV f l T) e fr))) (a:aO l ix=some z) (s:qK P t [f z]=some (f z))
  (h:N ((d,f z)::L) w):dZ P n ops Q i N L w:=by
 unfold aO at a
 split at a
 .refine lO k c (λq r=> ?_) h
  have A:=p.1
  have g:=AE (P:=P) (w:=w) (t:=t) (b:=b) (o:=ix.toNat) (cs:=[f z]) (v:=f z) (λj u B=>by
   grind [Go.World.cell?,qAo]) s
  simp[execOp,r,Instr.loadAt,cT y,Instr.sureAddr,g]
 cases a
theorem XH{t e:TypeId}{x y:Operand}{b:Nat}{l:List α}{T:List Value}{ix:Int}{z u:α}(v:dH ops L i=some (none,.store t x y))
  (B:bS L x=some (.pointer (some ⟨b,ix.toNat,none⟩))) (D:bS L y=some (f u)) (st:St m (.blk b (.cells (lV f l T) e (0,0))::own) w) (d:aO l ix=some z) (p:(f u).oneCell'=true) (g:(P.info? t).map (·.size)=some 1)
  (h:∀w',St m (.blk b (.cells (lV f (l.set ix.toNat u) T) e (0,0))::own) w'->N L w'):dZ P n ops Q i N L w:=by
 unfold aO at d
 split at d
 .have E:ix.toNat<l.length:=(List.getElem?_eq_some_iff.1 d).1
  have c:(f u).cells= #[f u]:=by cases hv:f u<;>simp_all [Value.cells,Value.oneCell']
  have r:=st.head.1
  have a:=run_storeCells_at P b ix.toNat e [f u] 0 (lV f l T) w r (by simp[lV];omega) (by simp[p])
  simp only[fB] at a
  have o:((lV f l T).toList.take ix.toNat++[f u]++(lV f l T).toList.drop (ix.toNat+[f u].length)).toArray=lV f (l.set ix.toNat u) T:=by
   apply kA List.toArray
   grind [lV,List.map_set,List.set_eq_take_append_cons_drop]
  rw[o] at a
  cases hi:P.info? t with
  |none=>grind
  |some inf=>
   simp only[hi,gJ,jM] at g
   refine CP v (λq A=> ?_) (h (w.setRow b (lV f (l.set ix.toNat u) T)) (st.set ⟨⟨rfl,rfl⟩,rfl,mQ⟩ (setRow_heap w b (lV f l T) _ e _ r) (λk _ s=>setRow_other w b k _ s)))
   simp[execOp,A,Instr.storeAt,cT B,cT D,Instr.sureAddr,storeVar,sizeOf,typeInfo,hi,c,g,a]
 cases d
theorem St.freeze{c:Codec α}{b e nn cc:Nat}{l:List α}{T:List Value}(st:St m (.blk b (.cells (lV f l T) e (0,0))::own) w)(D:List.length l=nn)(t:nn<=cc)(d:cc<=maxLen)(A:(lV f l T).size=cc)(u:c.sz=1)(B:∀m x,c.rep m x [f x]):
  ∃m',m.le m'/\St m' (.room (some ⟨b,0,none⟩) (List.length l) cc e 1::own) w/\RepS c m' (some ⟨b,0,none⟩) cc l:=by
 have g:(lV f l T).toList.take (l.map f).length=l.map f:=by simp[lV]
 obtain⟨m',n,p,y,q,r,z⟩:=St.know (b:=b) (cs:=l.map f) st.tail (st.head_ne rfl) st.head.1 g (λo v h=>by rw[st.head.2.1 o] at h;cases h)
 refine⟨m',n,p.cons ⟨rfl,rfl,by omega,d,⟨_,st.head.1,by grind⟩,λo s=>q o (by simpa using s),by rw[r];exact st.head.2.2⟩ ?_,?_⟩
 .intro k a;simp[Piece.block] at a;subst a;exact st.head_ne rfl
 grind [RepS.of_cells,List.drop_eq_getElem_cons]
theorem qFk{by_:Nat}{z:α}{k:Int}{l:List α}(h:wX by_ z k=some l):k.toNat<=maxLen:=by
 grind [wX]
theorem Za{l:List α}{T:List Value}{nn cc:Nat}(h:List.length l=nn)(a:nn+T.length=cc):(lV f l T).size=cc:=by simp[lV];omega
end
theorem AL{α:Type}{l:List α}{n:Nat}(h:List.length l=n)(i:Nat)(a:α):List.length (List.set l i a)=n:=by grind
end Go.Dc
end
namespace Go.Dc
section
def mG{α σ β:Type}(f:Option α->σ->Option (σ⊕β)):List α->σ->Option β
 |[],s=>(f none s).bind fun
  | .inl _=>none
  | .inr b=>some b
 |e::l,s=>(f (some e) s).bind fun
  | .inl s'=>mG f l s'
  | .inr b=>some b
def NI{α:Type}(x:α):List α->List (List α)
 |[]=>[[x]]
 |y::l=>(x::y::l)::(NI x l).map (y:: ·)
def yS{α:Type}:List α->List (List α)
 |[]=>[[]]
 |x::l=>(yS l).flatMap (NI x)
theorem SW{α:Type}{x:α}:∀{l k:List α},k∈NI x l↔∃a b,l=a++b/\k=a++x::b
 |[],k=>by
  simp only[NI,kY]
  constructor
  .rintro rfl;exact⟨[],[],rfl,rfl⟩
  simp_all
 |y::l,k=>by
  simp only[NI,jG,gF]
  constructor
  .rintro(rfl|⟨k',c,rfl⟩)
   .exact⟨[],y::l,rfl,rfl⟩
   obtain⟨a,b,rfl,rfl⟩:=SW.1 c
   grind
  rintro⟨a,b,h,rfl⟩
  cases a with
  |nil=>grind
  |cons z a=>
   simp only[gV,fL] at h
   obtain⟨rfl,rfl⟩:=h
   right
   exact⟨a++x::b,SW.2 ⟨a,b,rfl,rfl⟩,rfl⟩
theorem YL{α:Type}:∀{l k:List α},k.Perm l->k∈yS l
 |[],k,h=>by grind [List.perm_nil,yS]
 |x::l,k,h=>by
  have c:x∈k:=h.mem_iff.2 (jD ..)
  obtain⟨a,b,rfl⟩:=List.append_of_mem c
  have h':(a++b).Perm l:=(kX.symm.trans h).cons_inv
  simp only[yS,kL]
  exact⟨a++b,YL h',SW.2 ⟨a,b,rfl,rfl⟩⟩
theorem Hl{α:Type}:∀{l k:List α},k∈yS l->k.Perm l
 |[],k,h=>by simp[yS] at h;simp_all
 |x::l,k,h=>by
  simp only[yS,kL] at h
  obtain⟨k',c,d⟩:=h
  obtain⟨a,b,rfl,rfl⟩:=SW.1 d
  exact kX.trans ((Hl c).cons x)
class Triv(σ:Type) where
 one:Bool
 eq:one=true->∀a b:σ,a=b
instance trivNo{σ:Type}:Triv σ:=⟨false,λh=>by cases h⟩
instance trivU:Triv Unit:=⟨true,λ_ _ _=>rfl⟩
def Bu{α σ β:Type}[DecidableEq β][Triv σ](f:Option α->σ->Option (σ⊕β))(l:List α)(s:σ)(b:β):Bool:=
 Triv.one σ&&l.all λx=>match f (some x) s with
  |some (.inl _)=>true
  |some (.inr c)=>decide (c=b)
  |none=>false
theorem XX{α σ β:Type}{f:Option α->σ->Option (σ⊕β)}{s:σ}{b:β}(d:∀a c:σ,a=c):∀k:List α,(∀x∈k,(∃s',f (some x) s=some (.inl s'))\/f (some x) s=some (.inr b))->
  (mG f k s=some b/\∃x∈k,f (some x) s=some (.inr b))\/mG f k s=mG f [] s/\∀x∈k,f (some x) s≠some (.inr b)
 |[],_=> .inr ⟨rfl,by simp⟩
 |x::k,h=>by
  rcases h x (jD ..) with ⟨s',g⟩|g
  .have e:mG f (x::k) s=mG f k s:=by rw[mG,g,d s' s];rfl
   rcases XX d k λy l=>h y (jC _ l) with ⟨n,y,l,o⟩|⟨n,o⟩
   .grind
   grind
  grind [mG]
theorem qEb{α σ β:Type}[DecidableEq β][Triv σ]{f:Option α->σ->Option (σ⊕β)}{l:List α}{s:σ}{b:β}(g:mG f l s=some b)(a:Bu f l s b=true)(k:List α)(e:k.Perm l):mG f k s=some b:=by
 unfold Bu at a
 rw[jU] at a
 have good:∀x∈l,(∃s',f (some x) s=some (.inl s'))\/f (some x) s=some (.inr b):=λx c=>by
  grind
 have d:=Triv.eq a.1
 rcases XX d k λx c=>good x (e.mem_iff.1 c) with h|⟨n,o⟩
 .exact h.1
 rcases XX d l good with ⟨_,x,c,q⟩|⟨p,_⟩
 .grind
 grind
def AO{α σ β:Type}[DecidableEq β][Triv σ](f:Option α->σ->Option (σ⊕β))(l:List α)(s:σ):Option β:=
 match mG f l s with
 |none=>none
 |some b=>if(Bu f l s b||(yS l).all λk=>decide (mG f k s=some b))then some b else none
theorem qAp{α σ β:Type}[DecidableEq β][Triv σ]{f:Option α->σ->Option (σ⊕β)}{l:List α}{s:σ}{b:β}(h:AO f l s=some b):∀k,k.Perm l->mG f k s=some b:=by
 grind [AO,qEb,YL]
theorem qCe{α σ β:Type}[DecidableEq β][Triv σ]{f:Option α->σ->Option (σ⊕β)}{l:List α}{s:σ}{b:β}(h:∀k,k.Perm l->mG f k s=some b):AO f l s=some b:=by
 unfold AO
 rw[h l (.refl _)]
 grind [Hl]
def LoopE{α σ β:Type}(f:Option α->σ->Option (σ⊕β))(rem:List α)(s:σ)(b:β)(k:Nat):Prop:=(∀l,l.Perm rem->mG f l s=some b)/\rem.length<k
theorem LoopE.start{α σ β:Type}[DecidableEq β][Triv σ]{f:Option α->σ->Option (σ⊕β)}{l:List α}{s:σ}{b:β}(h:AO f l s=some b):LoopE f l s b (l.length+1):=⟨qAp h,Nat.lt_succ_self _⟩
theorem LoopE.zero{α σ β:Type}{f:Option α->σ->Option (σ⊕β)}{rem:List α}{s:σ}{b:β}{p:Prop}(h:LoopE f rem s b 0):p:=absurd h.2 (jO _)
theorem LoopE.nil{α σ β:Type}{f:Option α->σ->Option (σ⊕β)}{rem:List α}{s:σ}{b:β}{k:Nat}(h:LoopE f rem s b (k+1))(a:rem=[]):
  ∃c,f none s=some c/\(∀s',c= .inl s'->LoopE f rem s' b k)/\(∀b',c= .inr b'->b'=b):=by
 subst a
 have:=h.1 [] (.refl _)
 grind [mG,Option.bind_eq_some_iff]
theorem LoopE.cons{α σ β:Type}{f:Option α->σ->Option (σ⊕β)}{rem rest:List α}{e:α}{s:σ}{b:β}{k:Nat}(h:LoopE f rem s b (k+1))(g:rem.Perm (e::rest)):
  ∃c,f (some e) s=some c/\(∀s',c= .inl s'->LoopE f rest s' b k)/\(∀b',c= .inr b'->b'=b):=by
 have o:rem.length=rest.length+1:=by simpa using g.length_eq
 have key:∀l,l.Perm rest->mG f (e::l) s=some b:=λl d=>h.1 _ ((d.cons e).trans g.symm)
 have a:=key rest (.refl _)
 simp only[mG] at a
 obtain⟨c,n,p⟩:=jV.1 a
 refine⟨c,n,?_,?_⟩
 .rintro s' rfl
  refine⟨λl d=> ?_,by have:=h.2;omega⟩
  grind [mG]
 grind
def uW(r:Nat)(q:Option Nat)(ck:Nat)(seen:Array Nat):Piece:= .blk r (.mapIter q ck seen ck)
def DB(es:Array MapEntry)(seen:Array Nat):List MapEntry:=es.toList.filter λe=> !seen.contains e.born
def ItR{κ ν:Type}(ek:κ->Value)(c:Codec ν)(agg:Bool)(m:Mem)(es:Array MapEntry)(seen:Array Nat)(rem:List (κ×ν)):Prop:=∃l',l'.Perm rem/\MapL ek c agg m (DB es seen) l'
def eS(es:Array MapEntry)(seen:Array Nat)(k v:Value):Prop:=∃(s0:Array Nat) (e:MapEntry),seen=s0.push e.born/\e∈es.toList/\e.key=k/\e.val=v
theorem ItR.mono{κ ν:Type}{ek:κ->Value}{c:Codec ν}{agg:Bool}{m m':Mem}{es:Array MapEntry}{seen:Array Nat}{rem:List (κ×ν)}(h:ItR ek c agg m es seen rem)(a:m.le m'):ItR ek c agg m' es seen rem:=by
 obtain⟨l',b,d⟩:=h;exact⟨l',b,d.mono a⟩
variable {P:Program} {n:Fr} {ops:Array Oper} {Q:Exit->Act->World->Prop} {i d:Nat} {L:bO} {w:World} {m:Mem} {own:List Piece} {N:bO->World->Prop}
variable {κ ν:Type} {ek:κ->Value} {c:Codec ν} {agg:Bool}
theorem qBr{t kt et:TypeId}{x:Operand}{b:Nat}{es:Array MapEntry}{ck:Nat}{o:Option (List (κ×ν))}(p:dH ops L i=some (some d,.range t x))(k:Nat.blt d n=true)(y:bS L x=some (.map (some b)))
  (v:P.underlying t=some (.map kt et)) (st:St m (lI (some b) es ck::own) w) (u:MapQ ek c agg m (some b) es ck o)
  (h:∀r w',St m (uW r (some b) ck #[]::lI (some b) es ck::own) w'->ItR ek c agg m es #[] (o.getD [])->N ((d,.pointer (some ⟨r,0,none⟩))::L) w'):dZ P n ops Q i N L w:=by
 obtain⟨l,l',rfl,a,z,B,A⟩:=u
 have e:(getObj b).run P w= .ok (.map es ck) w:=by
  have f:w.heap[b]? =some (.map es ck):=st.head.1
  grind [Go.getObj,Go.Sem.run]
 have g:=st.alloc (w':=w.alloc (.mapIter (some b) ck #[] ck)) (o:= .mapIter (some b) ck #[] ck) ⟨⟨rfl,rfl⟩,rfl,mQ⟩ rfl
 have f:∀o,(newObj o).run P w= .ok w.heap.size (w.alloc o):=λo=>rfl
 refine lO p k (λq s=> ?_) (h w.heap.size _ g ⟨l',a,by grind [DB,List.filter_eq_self]⟩)
 simp[execOp,s,cT y,Instr.range,run_underlying v,e,f]
theorem Oe:∀{es:List MapEntry} {l:List (κ×ν)} {j:Nat} {e:MapEntry},MapL ek c agg m es l->es[j]? =some e->∃k v cs,l[j]? =some (k,v)/\e.key=ek k/\c.rep m v cs/\e.val=qU agg cs/\MapL ek c agg m (es.eraseIdx j) (l.eraseIdx j)
 |e0::es,l,0,e,⟨k,v,l',a,b,⟨cs,d,t⟩,f⟩,g=>by
  grind
 |e0::es,l,j+1,e,⟨k,v,l',a,b,d,f⟩,g=>by
  subst a
  obtain⟨r,s,cs,h,n,o,p,q⟩:=Oe f (by simpa using g)
  exact⟨r,s,cs,by simpa using h,n,o,p,by simp only[List.eraseIdx_cons_succ];exact⟨k,v,_,rfl,b,d,q⟩⟩
theorem Ym{es:List MapEntry}(c:(es.map (·.born)).Nodup){seen:Array Nat}{j:Nat}{e:MapEntry}(h:(es.filter λe=> !seen.contains e.born)[j]? =some e):
  (es.filter λe'=> !(seen.push e.born).contains e'.born)=(es.filter λe=> !seen.contains e.born).eraseIdx j:=by
 induction es generalizing j with
 |nil=>simp at h
 |cons x es d=>
  simp only[kO,fJ] at c
  simp only[List.filter_cons] at h ⊢
  have a:∀y:MapEntry,(seen.push e.born).contains y.born=(seen.contains y.born||(y.born==e.born)):=λy=>by
   rw[Array.contains_push]
  by_cases hx:seen.contains x.born=true
  .grind
  have hx':seen.contains x.born=false:=by simpa using hx
  simp only[hx',kV,jJ] at h ⊢
  rw[a,hx']
  cases j with
  |zero=>
   grind [List.filter_congr]
  |succ j=>
   have h':(es.filter λe=> !seen.contains e.born)[j]? =some e:=by simpa using h
   have b:e∈es:=(gL.1 (fQ h')).1
   grind
theorem Mb(es:Array MapEntry)(seen:Array Nat):(leftOf es seen).toList=DB es seen:=by simp[leftOf,DB]
theorem St.setIt{r:Nat}{q:Option Nat}{ck:Nat}{seen:Array Nat}{b:World}(seen':Array Nat)(st:St m (uW r q ck seen::own) w)(a:b=w\/b=w.drew):St m (uW r q ck seen'::own) (Go.ChangeMaps.setBlock b r (.mapIter q ck seen' ck)):=by
 have c:=tP st.head.1
 refine St.set (o:= .mapIter q ck seen ck) (o':= .mapIter q ck seen' ck) st ?_ ?_ ?_
 .rcases a with rfl|rfl<;>exact⟨⟨rfl,rfl⟩,rfl,mQ⟩
 .have:(w.heap.setIfInBounds r (.mapIter q ck seen' ck))[r]? =some (.mapIter q ck seen' ck):=by simp[c]
  rcases a with rfl|rfl<;>exact this
 intro k _ d
 have:(w.heap.setIfInBounds r (.mapIter q ck seen' ck))[k]? =w.heap[k]? :=by grind
 rcases a with rfl|rfl<;>exact this
theorem qEq{x:Operand}{r b ck:Nat}{es:Array MapEntry}{seen:Array Nat}{o:Option (List (κ×ν))}{rem:List (κ×ν)}(U:dH ops L i=some (some d,.next x false))(S:Nat.blt d n=true)(F:bS L x=some (.pointer (some ⟨r,0,none⟩)))
  (st:St m (uW r (some b) ck seen::lI (some b) es ck::own) w) (h:MapQ ek c agg m (some b) es ck o) (V:ItR ek c agg m es seen rem)
  (M:rem=[]->∀w',St m (uW r (some b) ck seen::lI (some b) es ck::own) w'->N ((d,.tuple #[.bool false])::L) w')
  (R:∀(e:κ×ν) (rest:List (κ×ν)) (seen':Array Nat) (cs:List Value) (w':World),rem.Perm (e::rest)->c.rep m e.2 cs->St m (uW r (some b) ck seen'::lI (some b) es ck::own) w'->ItR ek c agg m es seen' rest->eS es seen' (ek e.1) (qU agg cs)->
   N ((d,.tuple #[.bool true,ek e.1,qU agg cs])::L) w'):dZ P n ops Q i N L w:=by
 obtain⟨_,_,_,_,_,_,y,z⟩:=h
 obtain⟨l',f,p⟩:=V
 have A:w.heap[r]? =some (.mapIter (some b) ck seen ck):=st.head.1
 have D:w.heap[b]? =some (.map es ck):=st.tail.head.1
 refine GS (v:=undef) (w':=w) U S (λq h=> ?_)
 rcases run_next_at (P:=P) w q.type r b ck ck seen es ck A D y (jH _) with ⟨hz,a⟩|⟨e,l,w1,E,a⟩
 .have g:DB es seen=[]:=by grind [Mb]
  rw[g] at p
  have hl':l'=[]:=p
  subst hl'
  refine⟨_,w,?_,M (List.nil_perm.1 f) w st⟩
  simp[execOp,h,cT F,a]
 rw[Mb] at l
 obtain⟨j,B⟩:=fK.1 l
 obtain⟨k,v,cs,H,t,K,u,Z⟩:=Oe p B
 have Y:=(List.getElem?_eq_some_iff.1 H).1
 have g:l'.Perm ((k,v)::l'.eraseIdx j):=by
  grind [List.getElem_cons_drop,List.take_append_drop,List.perm_middle]
 have s:e∈es.toList:=(gL.1 l).1
 have G:DB es (seen.push e.born)=(DB es seen).eraseIdx j:=Ym z B
 refine⟨_,_,?_,R (k,v) (l'.eraseIdx j) (seen.push e.born) cs _ (f.symm.trans g) K (St.setIt _ st E) ⟨_,.refl _,by grind⟩ ⟨seen,e,rfl,s,t,u⟩⟩
 simp[execOp,h,cT F,a,t,u]
theorem qBs{x:Operand}{r b ck:Nat}{es:Array MapEntry}{seen:Array Nat}{o:Option (List (κ×ν))}{K V:Value}(v:dH ops L i=some (some d,.entry x))(t:Nat.blt d n=true)(y:bS L x=some (.pointer (some ⟨r,0,none⟩)))
  (st:St m (uW r (some b) ck seen::lI (some b) es ck::own) w) (g:MapQ ek c agg m (some b) es ck o) (u:eS es seen K V)
  (h:N ((d,.tuple #[K,V])::L) w):dZ P n ops Q i N L w:=by
 obtain⟨_,_,_,_,_,_,z,l⟩:=g
 obtain⟨a,e,rfl,f,rfl,rfl⟩:=u
 have p:w.heap[r]? =some (.mapIter (some b) ck (a.push e.born) ck):=st.head.1
 have s:w.heap[b]? =some (.map es ck):=st.tail.head.1
 have k:=run_entry_at (P:=P) w r b ck a es ck e p s f l
 refine lO v t (λq g=> ?_) h
 simp[execOp,g,cT y,k]
end
end Go.Dc
section
namespace Go.Dc
def EB(s:BA)(c:Int):Int:=
 match(List.range s.size).find? λi=>s[i]! ==c.toNat.toUInt8 with
 |some i=>(i:Int)
 |none=> -1
def OM(s:BA)(c:Int):Int:=s.foldl (λn x=>if x==c.toNat.toUInt8 then n+1 else n) ((0:Nat):Int)
section
variable {ρ:Option Nat} {P:Program} {n:Fr} {ops:Array Oper} {Q:Exit->Act->World->Prop} {i d:Nat} {L:bO} {w:World} {m:Mem} {own:List Piece} {N:bO->World->Prop}
theorem XS{f:FuncId}{fn:Func}{e:Array Value->Sem Value}{xs:Array Operand}{ts:Array TypeId}(vs:List Value)(v:Value)(s:dH ops L i=some (some d,.call {callee:= .value (.func f),args:=xs,argTypes:=ts}))(p:Nat.blt d n=true)
  (u : xs.map (nX L) = vs.toArray) (r : P.funcs[f]? = some fn) (b : (fn.name == "runtime.NumGoroutine", fn.body.isNone, (Extern.findNext fn).isNone) = (false, true, true)) (o : Extern.find fn = some e)
  (a:(e vs.toArray).run P w= .ok v w) (h:N ((d,v)::L) w):dZ P n ops Q i N L w:=by
 simp only[Prod.mk.injEq] at b
 obtain⟨g,k,l⟩:=b
 have g1' : ¬ fn.name = "runtime.NumGoroutine" := by simpa using g
 have g2':fn.body=none:=by simpa using k
 have g3':Extern.findNext fn=none:=by simpa using l
 refine lO s p (λq t=> ?_) h
 have c:nX L (.func f)= .func (.func f) #[] #[]:=rfl
 simp[execOp,t,resolve,c,u,Deferred.ofValue,invoke,callFunc,r,g1',g2',g3',o,a]
theorem Xy{f:FuncId}{fn:Func}{x y:Operand}{ts:Array TypeId}{s:BA}{c:Int}(l:dH ops L i=some (some d,.call {callee:= .value (.func f),args:= #[x,y],argTypes:=ts}))(g:Nat.blt d n=true)
  (o : bS L x = some (.string s)) (p : bS L y = some (.int .u8 c)) (k : P.funcs[f]? = some fn) (a : (fn.name == "runtime.NumGoroutine", fn.body.isNone, (Extern.findNext fn).isNone) = (false, true, true)) (b : Extern.find fn = some Extern.BytealgIndexByte.indexByte)
  (h:N ((d,.int .i64 (EB s c))::L) w):dZ P n ops Q i N L w:=by
 refine XS [.string s,.int .u8 c] _ l g (by grind [cT]) k a b ?_ h
 have e:Extern.BytealgIndexByte.indexByte #[.string s,.int .u8 c]=(match(List.range s.size).find? λi=>s[i]! ==c.toNat.toUInt8 with
  |some i=>pure (goInt i)
  |none=>pure (goInt (-1))):=rfl
 show(Extern.BytealgIndexByte.indexByte #[.string s,.int .u8 c]).run P w=_
 rw[e]
 unfold EB
 split<;>rfl
theorem Yg{f:FuncId}{fn:Func}{x y:Operand}{ts:Array TypeId}{s:BA}{c:Int}(l:dH ops L i=some (some d,.call {callee:= .value (.func f),args:= #[x,y],argTypes:=ts}))(g:Nat.blt d n=true)
  (o : bS L x = some (.string s)) (p : bS L y = some (.int .u8 c)) (k : P.funcs[f]? = some fn) (a : (fn.name == "runtime.NumGoroutine", fn.body.isNone, (Extern.findNext fn).isNone) = (false, true, true)) (b : Extern.find fn = some Extern.BytealgCount.count)
  (h:N ((d,.int .i64 (OM s c))::L) w):dZ P n ops Q i N L w:=by
 refine XS [.string s,.int .u8 c] _ l g (by grind [cT]) k a b ?_ h
 have e:Extern.BytealgCount.count #[.string s,.int .u8 c]=pure (goInt (s.foldl (λn x=>if x==c.toNat.toUInt8 then n+1 else n) (0:Nat))):=rfl
 show(Extern.BytealgCount.count #[.string s,.int .u8 c]).run P w=_
 grind [OM,Go.goInt,Go.Sem.run_pure]
def qJi(Q:Exit->Act->World->Prop):Exit->Act->World->Prop
 | .goto _,_,_=>False
 | .normal,a,w=>Q .normal a w
 | .exit id,a,w=>Q (.exit id) a w
 | .ret,a,w=>Q .ret a w
 | .panic c,a,w=>Q (.panic c) a w
 | .outgrown,a,w=>Q .outgrown a w
end
def Be(P:Program)(t:TypeId):Value->Value->Option Bool
 | .int k a,.int k' b=>match P.underlying t with
  |some (.int _)=>bif decide (k=k') then some (a==b) else none
  |_=>none
 | .bool a,.bool b=>match P.underlying t with
  |some .bool=>some (a==b)
  |_=>none
 | .string a,.string b=>match P.underlying t with
  |some .string=>some (a.toList==b.toList)
  |_=>none
 |_,_=>none
def DM(P:Program)(xs ys:Array Value):List Field->Option Bool
 |[]=>some true
 |f::fs=>match xs[f.offset]?,ys[f.offset]? with
  | some a, some b => bif f.name == "_" || !P.plainKey f.type then none else (Be P f.type a b).bind λr => (DM P xs ys fs).map λs => r && s
  |_,_=>none
section
variable {P:Program} {n:Fr} {ops:Array Oper} {Q:Exit->Act->World->Prop} {i d:Nat} {L:bO} {w:World} {N:bO->World->Prop}
theorem qBq{t:TypeId}{a b:Value}{r:Bool}(dp:Nat)(h:Be P t a b=some r):(Op.equalIn (dp+1) t a b).run P w= .ok r w:=by
 unfold Be at h
 grind [Go.run_equalIn_int,Go.run_equalIn_bool,Go.run_equalIn_string]
theorem Nf{xs ys:Array Value}(dp:Nat):∀{fs:List Field} {r:Bool},DM P xs ys fs=some r->(Op.eqFields (dp+1) xs ys fs).run P w= .ok r w
 |[],r,h=>by simp[DM] at h;subst h;simp[Op.eqFields]
 |f::fs,r,h=>by
  simp only[DM] at h
  split at h
  .rename_i a b ha hb
   cases hc : (f.name == "_" || !P.plainKey f.type) with
   |true=>grind
   |false=>
    simp only[hc,cond_false] at h
    simp only[Bool.or_eq_false_iff,Bool.not_eq_false'] at hc
    obtain⟨s,c,d⟩:=jV.1 h
    obtain⟨u,e,g⟩:=jK.1 d
    have k : f.name ≠ "_" := by simpa using hc.1
    have p1:=run_part_plain (P:=P) (w:=w) hc.2 ha
    have p2:=run_part_plain (P:=P) (w:=w) hc.2 hb
    have p3:=qBq (w:=w) dp c
    have p4:=Nf dp e
    subst g
    simp only[Op.eqFields,k,ne_eq,not_false_eq_true,jJ,Sem.run_bind,p1,p2,p3,Result.andThen_ok]
    cases s<;>simp[p4]
  cases h
theorem Gf{t:TypeId}{xs ys:Array Value}{r:Bool}(b:P.underlying t=some (.struct (P.fieldsOf t)))(a:P.stoodInHeld t=false)(h:DM P xs ys (P.fieldsOf t).toList=some r):(Op.equal t (.agg xs) (.agg ys)).run P w= .ok r w:=by
 have e:Op.equal t (.agg xs) (.agg ys)=Op.equalIn (9999+1) t (.agg xs) (.agg ys):=rfl
 grind [Go.run_equalIn_struct,Nf]
theorem TG{t t2:TypeId}{x y:Operand}{xs ys:Array Value}(r:Bool)(e:dH ops L i=some (some d,.binOp .eql t x y t2))(c:Nat.blt d n=true)(k:bS L x=some (.agg xs))(l:bS L y=some (.agg ys))
  (g:P.underlying t=some (.struct (P.fieldsOf t))) (a:(P.stoodInHeld t,P.eqGuardType P.depth t)=(false,false)) (b:DM P xs ys (P.fieldsOf t).toList=some r) (h:N ((d,.bool r)::L) w):dZ P n ops Q i N L w:=by
 simp only[Prod.mk.injEq] at a
 refine lO e c (λq f=> ?_) h
 simp[execOp,f,cT k,cT l,eqGuard,a.2,binOp,Gf g a.1 b]
theorem YZ{t t2:TypeId}{x y:Operand}{xs ys:Array Value}(r:Bool)(e:dH ops L i=some (some d,.binOp .neq t x y t2))(c:Nat.blt d n=true)(k:bS L x=some (.agg xs))(l:bS L y=some (.agg ys))
  (g:P.underlying t=some (.struct (P.fieldsOf t))) (a:(P.stoodInHeld t,P.eqGuardType P.depth t)=(false,false)) (b:DM P xs ys (P.fieldsOf t).toList=some r) (h:N ((d,.bool (!r))::L) w):dZ P n ops Q i N L w:=by
 simp only[Prod.mk.injEq] at a
 refine lO e c (λq f=> ?_) h
 simp[execOp,f,cT k,cT l,eqGuard,a.2,binOp,Gf g a.1 b]
theorem Ye{m:Mem}{own:List Piece}{t e e' sz b k n' cap cap':Nat}{x:Operand}(G:dH ops L i=some (some d,.convert t t x))(E:Nat.blt d n=true)(M:bS L x=some (.slice (some ⟨b,0,none⟩) k cap))
  (B:NH P t=some e) (st:St m (.room (some ⟨b,0,none⟩) n' cap' e' sz::own) w) (h:∀w',St m own w'->N ((d,.slice (some ⟨b,0,none⟩) k cap)::L) w'):dZ P n ops Q i N L w:=by
 obtain⟨z,A⟩:=XJ B
 obtain⟨_,_,_,_,⟨cur,g,_⟩,_⟩:=st.head
 have S:=tP g
 have r:=st.head_ne (b:=b) rfl
 have a:=st.tail
 obtain⟨w',hw'⟩:∃w',w'=w.freeze ⟨b,cur.size,none⟩ 1:=⟨_,rfl⟩
 have u:w.shape? b=some (e',cur.size):=by grind [Go.World.shape?]
 have V:w'.heap[b]? =some (.cells cur e' (cur.size,cur.size+1)):=by
  grind [Go.World.freeze]
 have ho':∀j,j≠b->w'.heap[j]? =w.heap[j]? :=λj Y=>by
  grind [Go.World.freeze]
 have H:Step w w':=by rw[hw'];unfold World.freeze;exact⟨⟨rfl,rfl⟩,rfl,mQ⟩
 have l:(convert t t (.slice (some ⟨b,0,none⟩) k cap)).run P w= .ok (.slice (some ⟨b,0,none⟩) k cap) w':=by
  simp[convert,run_underlying z,run_underlying A,markStringish,u,hw']
 have st':St m own w':=by
  refine⟨⟨λb' o v K=> ?_,λb' y R=> ?_,a.1.2.2.trans H⟩,λp s=>Piece.holds_keep (a.2.1 p s) λk F=>ho' k (λe=>r (TK.2 ⟨p,s,e▸F⟩)),a.2.2⟩
  .obtain⟨c,e0,f,D,U⟩:=a.1.1 b' o v K
   grind
  have D:=a.1.2.1 b' y R
  grind
 refine lO G E (λq s=> ?_) (h w' st')
 simp[execOp,s,cT M,l]
end
end Go.Dc
end
namespace Go.Dc
section
open Go.ChangeShapes Go.WideShapes Go.ChangeAt Go.RowKit
class TabW(w:World):Prop where
 ht:∀p∈Sc,∃t f,w.heap[p.1]? =some (.cells p.2 t f)
instance tabW0(w:World):TabW w:=⟨λp a=>by cases a⟩
def vH(w:World)[TabW w]:Mem:={cell:=λb o=>w.cell? ⟨b,o,none⟩,obj:=λb=>w.heap[b]?,wd:=w,ht:=TabW.ht}
theorem Ph(w:World)[TabW w]:St (vH w) [] w:=by
 refine⟨⟨λb o v h=> ?_,λ_ _ h=>h,Step.refl w⟩,⟨λp a=>absurd a (gC),List.nodup_nil⟩⟩
 grind [vH,Go.World.cell?]
theorem qBl{w w':World}[TabW w]{m':Mem}{own:List Piece}(a:Mem.le (vH w) m')(st:St m' own w'):
  w'.os=w.os/\w'.output=w.output/\∀(b:Nat) (x:Obj),w.heap[b]? =some x->w'.heap[b]? =some x:=by
 have c:=st.1.2.2
 have e:m'.wd=w:=a.2.2.symm
 rw[e] at c
 exact⟨c.1.1,c.1.2,λb x d=>st.1.2.1 b x (a.2.1 b x d)⟩
theorem qGj{w w':World}(a:w'.os=w.os)(c:w'.output=w.output)(d:∀(b:Nat) (x:Obj),w.heap[b]? =some x->w'.heap[b]? =some x)(may:MemPlace->Prop):w.keptBut w' may:=by
 refine⟨a,c,λi hi=> ?_⟩
 grind
theorem qHz{w w':World}(c:∀(b:Nat) (x:Obj),w.heap[b]? =some x->w'.heap[b]? =some x){p:MemPlace}(a:p.block<w.heap.size):w.sameAt w' p:=by
 obtain⟨x,hx⟩:∃x,w.heap[p.block]? =some x:=⟨w.heap[p.block],by simp[a]⟩
 cases p with
 |cell b off=>grind [Go.World.sameAt,Go.World.cell?,Go.MemPlace.block]
 |map b=>grind [Go.World.sameAt,Go.MemPlace.block]
section
variable {H:Type} {enc:TypeId×Value->H} {P:Program}
theorem Gk{w w':World}{sp:Nat->Bool}{T:TypeId->Prop}(K:Kids P T)(l:∀{t e:TypeId},T t->P.underlying t=some (.slice e)->0<P.cellsOf e)
  (c:∀(b:Nat) (x:Obj),w.heap[b]? =some x->w'.heap[b]? =some x):∀{ts:List TypeId} {vs:List Value} {ds:List (DataW H)} {ps:List MemPlace},(∀t∈ts,T t)->
  DataW.TrodAll enc P w 0 (λ_=>true) true ts vs ds ps->(∀p∈ps,p.block<w.heap.size)->(∀p∈ps,sp p.block=true)->DataW.TrodAll enc P w' 0 sp true ts vs ds ps
 |[],[],[],_,_,h,_,_=>h
 |t::ts,v::vs,d::ds,ps,k,h,f,g=>by
  obtain⟨p,q,⟨fuel,n⟩,o,rfl⟩:=h
  exact⟨p,q,⟨fuel,DataW.trod_stays K l (λe=>by cases e) (k t (jD ..)) n (λx a=>qHz c (f x (kQ _ a))) (λx a=>g x (kQ _ a))⟩,
   Gk K l c (λu r=>k u (jC _ r)) o (λx a=>f x (kW _ a)) (λx a=>g x (kW _ a)),rfl⟩
 |[],_::_,_,_,_,h,_,_=>by grind [Go.DataW.TrodAll]
 |[],[],_::_,_,_,h,_,_=>by simp[DataW.TrodAll] at h
 |_::_,[],_,_,_,h,_,_=>by grind [Go.DataW.TrodAll]
 |_::_,_::_,[],_,_,h,_,_=>by simp[DataW.TrodAll] at h
theorem qEm{f:Func}{s:ChangeSpec}{apart fresh a:Bool}{W W':World}{args:Array Value}{ds gs:List (DataW H)}{before:List MemPlace}{tb:TypeId}{T:TypeId->Prop}[TabW W](K:Kids P T)
  (E:∀{t e:TypeId},T t->P.underlying t=some (.slice e)->0<P.cellsOf e) (B:∀t∈f.params.toList,T t)
  (u:f.resultTypes= #[tb]) (g:P.underlying tb=some .bool) (h:s.vars=[]) (b:s.fn H (ds++gs)={results:=[.lit (.bool true)],args:=ds})
  (c:DataW.Whole enc P f.params.toList s.vars apart W args.toList ds gs before) {m':Mem} {own:List Piece} (d:Mem.le (vH W) m') (st:St m' own W'):
  s.post enc P f apart fresh a false W args (.bool true) W':=by
 obtain⟨k,l,n⟩:=qBl d st
 have hW':=c
 obtain⟨p,q,D,o,rfl,y,A⟩:=c
 have z:∀x∈p++q,x.block<W.heap.size:=λx v=>hW'.lt x v
 rw[h] at o
 have r:q=[]:=by
  grind [Go.DataW.TrodVars]
 subst r
 refine⟨ds,gs,_,[],p,[],hW',?_,?_,?_,qGj k l n _,λe=>by cases e⟩
 .rw[b,u]
  exact⟨[],[],⟨1,by simp[DataW.trod,Value.cells,g]⟩,rfl,rfl⟩
 .grind [Gk]
 rw[b,h];rfl
def VA{α:Type}(P:Program)(W:World)[TabW W](t:TypeId)(c:Codec α)(good:α->Prop):Prop:=
 P.cellsOf t=c.sz/\∀(H:Type) (enc:TypeId×Value->H) (n:Nat) (cs:List Value) (x:DataW H×List MemPlace),DataW.trod enc P W 0 (λ_=>true) true n t cs=some x->
  (x.1.weights P t).all (· <=reachBytes)=true->∃a,c.rep (vH W) a cs/\good a
variable {W:World} [TabW W]
theorem qDi{t:TypeId}{k:IntKind}(b:P.underlying t=some (.int k))(a:P.cellsOf t=1):VA P W t (aJ k) (λx=>(Lit.int k x).wf=true):=by
 refine⟨a,λH enc n cs x h _=> ?_⟩
 obtain⟨i,rfl,_,c⟩:=DataW.trod_int b h
 exact⟨i,rfl,c⟩
theorem Fe{H:Type}{e:TypeId}:∀{ds:List (DataW H)},(DataW.weightsAll P e ds).all (· <=reachBytes)=true->∀d∈ds,(d.weights P e).all (· <=reachBytes)=true
 |[],_,_,b=>by cases b
 |d::r,h,x,a=>by
  simp only[DataW.weightsAll,List.all_append,jU] at h
  rcases jG.1 a with rfl|a
  .exact h.1
  exact Fe h.2 x a
theorem qHm{a:Addr}{cs:List Value}{k n:Nat}(h:W.cells? 0 (a.add k) n=some cs)(b:a.spot=none):MRow (vH W) a.block (a.off+k) cs:=by
 obtain⟨_,d,c⟩:=World.cells?_some h
 intro j v e
 grind [GL,vH]
theorem Om{α:Type}{Q:Nat->α->List Value->Prop}:∀{n:Nat},(∀i,i<n->∃y cs,Q i y cs)->∃l:List α,l.length=n/\∀i x,l[i]? =some x->∃cs,Q i x cs
 |0,_=>⟨[],rfl,λi x h=>by simp at h⟩
 |n+1,h=>by
  obtain⟨l,a,b⟩:=Om (n:=n) (λi hi=>h i aa)
  obtain⟨y,cs,d⟩:=h n aa
  refine⟨l++[y],by simp[a],λi x c=> ?_⟩
  grind
theorem qAa{α:Type}{c:Codec α}{good:α->Prop}{t e:TypeId}{by_:Nat}(u:P.underlying t=some (.slice e))(A:P.cellsOf t=1)(K:P.bytesOf e=by_)(g:VA P W e c good):
  VA P W t (xN c) (λl=>l.length*by_<=reachBytes/\∀x∈l,good x):=by
 refine⟨A,λH enc n cs x h v=> ?_⟩
 rcases DataW.trod_slice u h with ⟨rfl,rfl⟩|⟨a,len,cap,elems,rest,n',rfl,rfl,rfl,_,B,E,D,p,_,_⟩
 .exact⟨[],⟨none,0,rfl,RepS.nil _ _⟩,by simp,by simp⟩
 simp only[DataW.weights,u,fF,List.all_append,jU,jR] at v
 obtain⟨G,z,_⟩:=v
 have key:∀i,i<len->∃y cs',W.cells? 0 (a.add (i*P.cellsOf e)) (P.cellsOf e)=some cs'/\c.rep (vH W) y cs'/\good y:=by
  intro i hi
  have d:=p i hi
  obtain⟨el,hel'⟩:∃el,elems[i]? =some el:=⟨elems[i]' aa,by simp⟩
  rw[hel'] at d
  obtain⟨cs',b,k⟩:=jV.1 d
  obtain⟨y,o,f⟩:=g.2 H enc n' cs' el k (Fe z el.1 (gE (fQ hel')))
  grind
 obtain⟨l,q,d⟩:=Om key
 subst q
 refine⟨l,⟨some a,cap,rfl,B,E,?_,λi x o=> ?_⟩,⟨?_,λx o=> ?_⟩⟩
 .cases l with
  |nil=>exact .inr rfl
  |cons y l=>
   obtain⟨cs',b,_⟩:=d 0 y rfl
   obtain⟨_,r,f⟩:=World.cells?_some b
   have F:=g.1▸c.pos
   grind [Go.Addr.add,Go.World.cell?_spot]
 .obtain⟨cs',b,k,_⟩:=d i x o
  have s:a.spot=none:=by
   cases l with
   |nil=>simp at o
   |cons y l=>
    obtain⟨cs',b,_⟩:=d 0 y rfl
    obtain⟨_,r,f⟩:=World.cells?_some b
    have F:=g.1▸c.pos
    grind [Go.Addr.add,Go.World.cell?_spot]
  exact⟨cs',k,g.1▸qHm b s⟩
 .grind
 grind [List.mem_iff_getElem?]
variable {base:Nat} {t:TypeId} {v:Value} {d:DataW H} {ps:List MemPlace}
theorem qCb{α:Type}{c:Codec α}{good:List α->Prop}{e:TypeId}(g:P.underlying t=some (.slice e))(f:VA P W t (xN c) good)(b:Value.okWide P W .any base t v)(h:DataW.Trod enc P W 0 (λ_=>true) true t v d ps)
  (k:(d.weights P t).all (· <=reachBytes)=true):∃(l:List α) (a:Option Addr) (cap:Nat),v= .slice a l.length cap/\RepS c (vH W) a cap l/\good l:=by
 obtain⟨a,len,cap,rfl⟩:=okWide_slice g b
 obtain⟨n,h⟩:=h
 obtain⟨l,⟨a',cap',o,q⟩,p⟩:=f.2 H enc n _ _ h k
 grind [Go.Value.cells]
end
def Pj(P:Program):Bool:=(List.range P.types.size).all λt=>match P.underlying t with
 |some (.slice e)=>Nat.blt 0 (P.cellsOf e)
 |_=>true
theorem qDl{P:Program}(h:Pj P=true){t e:TypeId}(a:t<P.types.size)(b:P.underlying t=some (.slice e)):0<P.cellsOf e:=by
 have:=jL.1 h t (gZ.2 a)
 simp_all
end
section
theorem bA{x:Int}(a: -9223372036854775808<=x)(b:x<=9223372036854775807):wI x=x:=by simp[wI,IntKind.wrap,IntKind.signed,IntKind.bits];omega
theorem AX{x:Int}(a:0<=x)(b:x<=18446744073709551615):IntKind.wrap .u64 x=x:=by simp[wI,IntKind.wrap,IntKind.signed,IntKind.bits];omega
theorem wu8{x:Int}(a:0<=x)(b:x<=255):IntKind.wrap .u8 x=x:=by simp[wI,IntKind.wrap,IntKind.signed,IntKind.bits];omega
theorem qCk(x:Int):IntKind.wrap .u64 x=x%18446744073709551616:=by simp[wI,IntKind.wrap,IntKind.signed,IntKind.bits]
theorem qEx(x:Int):IntKind.wrap .u8 x=x%256:=by simp[wI,IntKind.wrap,IntKind.signed,IntKind.bits]
theorem ZV{α:Type}{l:List α}{i:Int}(a:0<=i)(h:i.toNat<l.length):aO l i=some l[i.toNat]:=by simp[aO,a,h]
theorem cD{α:Type}{l:List α}{i:Nat}(h:i<l.length):aO l (i:Int)=some l[i]:=by simp[aO,h]
theorem Lv{s:BA}{i:Nat}(h:i<s.size):iB s (i:Int)=some s[i]:=by simp[iB,h]
theorem eT{α:Type}{b:Nat}{l k:List α}(h:(l.length+k.length)*b<=140737488355328)(a:0<b):dS b l k=some (l++k):=by
 have:l.length+k.length<=maxLen:=by
  have:(l.length+k.length)*1<=(l.length+k.length)*b:=Nat.mul_le_mul_left _ a
  simp only[maxLen];omega
 simp[dS,h,this]
theorem CL{α:Type}{l:List α}{lo hi:Int}(a:0<=lo)(b:lo<=hi)(c:hi<=l.length):qP l lo hi=some ((l.take hi.toNat).drop lo.toNat):=by simp[qP,a,b,c]
theorem TM{l:BA}{lo hi:Int}(a:0<=lo)(b:lo<=hi)(c:hi<=l.size):qS l lo hi=some (l.extract lo.toNat hi.toNat):=by simp[Me,a,b,c]
theorem ZN{σ β:Type}{f:σ->Option (σ⊕β)}(I:σ->Prop)(μ:σ->Nat)(R:β->Prop)
  (h:∀s,I s->(∃b,f s=some (.inr b)/\R b)\/∃s',f s=some (.inl s')/\I s'/\μ s'<μ s):∀(N:Nat) (s:σ),I s->μ s<N->∃b,aA f N s=some b/\R b
 |0,_,_,d=>absurd d (jO _)
 |N+1,s,k,d=>by
  rcases h s k with ⟨b,a,c⟩|⟨s',a,c,l⟩
  .exact⟨b,by simp[aA,a],c⟩
  obtain⟨b,e,g⟩:=ZN I μ R h N s' c aa
  exact⟨b,by simp[aA,a,e],g⟩
end
end Go.Dc
section
namespace Go.Dc
def ab(a:Option Addr):Nat:=match a with|some p=>p.block|none=>0
def bM(a:Option Addr)(cs:Array Value)(e:TypeId):Piece:=match a with
 |none=> .room none 0 0 0 0
 |some p=> .blk p.block (.cells cs e (0,0))
def aQ{α:Type}(f:α->List Value)(l:List α)(T:List Value):Array Value:=(l.flatMap f++T).toArray
def OAS(a:Option Addr)(n cap k:Nat)(T:List Value):Prop:=
 n<=cap/\cap<=maxLen/\match a with
  |none=>cap=0
  |some p=>p=⟨p.block,0,none⟩/\n*k+T.length=cap*k
theorem OAS.cast{α:Type}{a:Option Addr}{nn cap k:Nat}{T:List Value}{l:List α}(h:OAS a nn cap k T)(b:List.length l=nn):OAS a (List.length l) cap k T:=by rw[b];exact h
theorem OAS.nil(k:Nat):OAS none 0 0 k []:=⟨jH _,jQ _,rfl⟩
theorem nT{α:Type}{f:α->List Value}{k:Nat}(a:∀x,(f x).length=k):∀l:List α,(l.flatMap f).length=l.length*k
 |[]=>by simp
 |x::l=>by simp[kU,a,nT a l,kN,Nat.add_comm]
theorem AK{α:Type}{f:α->List Value}{k:Nat}(a:∀x,(f x).length=k):∀(l:List α) (i:Nat) (z:α) (j:Nat),l[i]? =some z->j<k->(l.flatMap f)[i*k+j]? =(f z)[j]?
 |[],i,z,j,h,_=>by simp at h
 |x::l,0,z,j,h,b=>by
  simp at h;subst h
  simp[kU,List.getElem?_append,a,b]
 |x::l,i+1,z,j,h,b=>by
  have:=AK a l i z j (by simpa using h) b
  rw[kU,List.getElem?_append_right (by rw[a,kN];omega),a]
  have e:(i+1)*k+j-k=i*k+j:=by rw[kN];omega
  rw[e];exact this
theorem Nn{α:Type}{f:α->List Value}{k:Nat}(a:∀x,(f x).length=k):∀(l:List α) (i:Nat) (z u:α),l[i]? =some z->
  (l.set i u).flatMap f=(l.flatMap f).take (i*k)++f u++(l.flatMap f).drop (i*k+k)
 |[],i,z,u,h=>by simp at h
 |x::l,0,z,u,h=>by
  rw[List.set_cons_zero,kU,kU,Nat.zero_mul,gN,List.take_zero,kT]
  rw[fU,jZ (by rw[a];exact jH _),a]
  simp
 |x::l,i+1,z,u,h=>by
  have:=Nn a l i z u (by simpa using h)
  simp only[List.set_cons_succ,kU,this]
  have b:(i+1)*k=(f x).length+i*k:=by rw[kN,a];omega
  have c:(i+1)*k+k=(f x).length+(i*k+k):=by omega
  rw[c,b,List.take_length_add_append,List.drop_length_add_append]
  simp[jW]
section
variable {P:Program} {n:Fr} {ops:Array Oper} {Q:Exit->Act->World->Prop} {i d:Nat} {L:bO} {w:World} {m:Mem} {own:List Piece} {N:bO->World->Prop}
variable {α:Type} {f:α->List Value}
theorem OAS.some{a:Option Addr}{nn cap k:Nat}{T:List Value}(h:OAS a nn cap k T){l:List α}(f:List.length l=nn){j:Nat}(e:j<l.length):a=Option.some ⟨ab a,0,none⟩:=by
 obtain⟨c,d,b⟩:=h
 cases a with
 |none=>simp only at b;omega
 |some p=>simp only at b;exact kA Option.some b.1
theorem TQ{a:Option Addr}{b:Nat}{cs:Array Value}{e:TypeId}(h:a=some ⟨b,0,none⟩):bM a cs e= .blk b (.cells cs e (0,0)):=by subst h;rfl
theorem CY{l:List α}{ix:Int}{z:α}(h:aO l ix=some z):0<=ix/\l[ix.toNat]? =some z/\ix.toNat<l.length:=by
 unfold aO at h
 split at h
 .rename_i h0;exact⟨h0,h,(List.getElem?_eq_some_iff.1 h).1⟩
 cases h
theorem MF{t e:TypeId}{x y:Operand}{a:Option Addr}{nn cc k:Nat}{T:List Value}{l:List α}{kd:IntKind}{ix:Int}{z:α}(v:dH ops L i=some (some d,.indexAddr t x y))(s:Nat.blt d n=true)
  (c:bS L x=some (.slice a nn cc)) (D:bS L y=some (.int kd ix)) (hi:nU P t=some (e,k)) (B:OAS a nn cc k T) (u:List.length l=nn) (E:aO l ix=some z)
  (h:N ((d,.pointer (some ⟨ab a,ix.toNat*k,none⟩))::L) w):dZ P n ops Q i N L w:=by
 obtain⟨g,inf,o,p⟩:=wC hi
 obtain⟨f,_,b⟩:=CY E
 have r:=B.some u b
 refine lO v s (λq A=> ?_) h
 have hlt':ix<(nn:Int):=by omega
 rw[r] at c
 simp[execOp,A,Instr.indexAt,cT c,cT D,asIntOf,run_underlying g,f,hlt',sizeOf,typeInfo,o,p,wM]
theorem XL{t e:TypeId}{x:Operand}{a:Option Addr}{nn cc k:Nat}{l:List α}{T:List Value}{ix:Int}{z:α}{o:Nat}{v:Value}(r:∀x,(f x).length=k)(po:Nat)(B:po=ix.toNat*k+o)(K:dH ops L i=some (some d,.load t x))(F:Nat.blt d n=true)
  (U:bS L x=some (.pointer (some ⟨ab a,po,none⟩))) (A:Piece.holds m w (bM a (aQ f l T) e)) (R:OAS a nn cc k T) (H:List.length l=nn) (V:aO l ix=some z) (S:qK P t ((f z).drop o)=some v)
  (h:N ((d,v)::L) w):dZ P n ops Q i N L w:=by
 obtain⟨Y,hz',y⟩:=CY V
 have D:=R.some H y
 subst B
 refine lO K F (λq M=> ?_) h
 rw[TQ D] at A
 have E:=A.1
 have G:=AE (P:=P) (w:=w) (t:=t) (b:=ab a) (o:=ix.toNat*k+o) (cs:=(f z).drop o) (v:=v) (λj u p=>by
  rw[List.getElem?_drop] at p
  have s:o+j<k:=by rw[<-r z];exact(List.getElem?_eq_some_iff.1 p).1
  have c:=AK r l ix.toNat z (o+j) hz' s
  rw[p] at c
  have g:=(List.getElem?_eq_some_iff.1 c).1
  simp only[World.cell?,E,aQ,List.getElem?_toArray]
  have e:ix.toNat*k+o+j=ix.toNat*k+(o+j):=by omega
  rw[e,List.getElem?_append_left g]
  simpa using c) S
 simp[execOp,M,Instr.loadAt,cT U,Instr.sureAddr,G]
theorem MG{t e:TypeId}{x y:Operand}{a:Option Addr}{nn cc k:Nat}{l:List α}{T:List Value}{ix:Int}{z u:α}{o:Nat}{v:Value}(g:∀x,(f x).length=k)(po:Nat)(D:po=ix.toNat*k+o)(S:dH ops L i=some (none,.store t x y))
  (Y:bS L x=some (.pointer (some ⟨ab a,po,none⟩))) (Z:bS L y=some v) (st:St m (bM a (aQ f l T) e::own) w) (U:OAS a nn cc k T) (R:List.length l=nn) (hz:aO l ix=some z) (d:AM P t v o k=true)
  (V:f u=(f z).take o++v.cells.toList++(f z).drop (o+v.cells.toList.length))
  (h:∀w',St m (bM a (aQ f (l.set ix.toNat u) T) e::own) w'->N L w'):dZ P n ops Q i N L w:=by
 obtain⟨h0,hz',s⟩:=CY hz
 have B:=U.some R s
 subst D
 rw[TQ B] at st
 have c:=nT g l
 unfold AM at d
 cases hi:P.info? t with
 |none=>simp[hi] at d
 |some inf=>
  simp only[hi,jU] at d
  obtain⟨⟨G,H⟩,K⟩:=d
  have h1':=fI G
  have h2':=gK H
  have a0:ix.toNat*k+k<=l.length*k:=by
   have:=kD k (show ix.toNat+1<=l.length from s)
   rw[kN,hR] at this;exact this
  have a1:v.cells.toList.length=v.cells.size:=by simp
  have E:ix.toNat*k+o+v.cells.toList.length<=(aQ f l T).size:=by
   simp only[aQ,gQ,jP,c];omega
  have b:=run_storeCells_at P (ab a) (ix.toNat*k+o) e v.cells.toList 0 (aQ f l T) w st.head.1 (by simpa using E) (Ig K)
  simp only[fB] at b
  have A:((aQ f l T).toList.take (ix.toNat*k+o)++v.cells.toList++(aQ f l T).toList.drop (ix.toNat*k+o+v.cells.toList.length)).toArray=aQ f (l.set ix.toNat u) T:=by
   apply kA List.toArray
   simp only[aQ,List.toList_toArray]
   rw[Nn g l ix.toNat z u hz',V]
   have M:(l.flatMap f).take (ix.toNat*k+o)=(l.flatMap f).take (ix.toNat*k)++(f z).take o:=by
    apply fN
    intro j
    rw[List.getElem?_take,List.getElem?_append]
    simp only[kS,c]
    split
    .rename_i p
     split
     .rename_i hj2;rw[List.getElem?_take,jB aa]
     rename_i hj2
     rw[List.getElem?_take,jB aa]
     have r:=AK g l ix.toNat z (j-ix.toNat*k) hz' aa
     have F:ix.toNat*k+(j-ix.toNat*k)=j:=by omega
     rw[F] at r
     rw[r];congr 1;omega
    rename_i p
    rw[jA aa,List.getElem?_take,jA aa]
   have F:(l.flatMap f).drop (ix.toNat*k+o+v.cells.toList.length)=(f z).drop (o+v.cells.toList.length)++(l.flatMap f).drop (ix.toNat*k+k):=by
    apply fN
    intro j
    rw[List.getElem?_drop,List.getElem?_append]
    simp only[gD,g]
    split
    .rename_i p
     rw[List.getElem?_drop]
     have r:=AK g l ix.toNat z (o+v.cells.toList.length+j) hz' aa
     rw[<-r];congr 1;omega
    rename_i p
    rw[List.getElem?_drop];congr 1;omega
   rw[gM (by rw[c];omega),List.drop_append_of_le_length (by rw[c];omega),M,F]
   simp only[jW]
  rw[A] at b
  have st':=st.set (w':=w.setRow (ab a) (aQ f (l.set ix.toNat u) T)) (o':= .cells (aQ f (l.set ix.toNat u) T) e (0,0)) ⟨⟨rfl,rfl⟩,rfl,mQ⟩ (setRow_heap w (ab a) (aQ f l T) _ e _ st.head.1) (λj _ p=>setRow_other w (ab a) j _ p)
  rw[<-TQ (cs:=aQ f (l.set ix.toNat u) T) (e:=e) B] at st'
  refine CP S (λq r=> ?_) (h (w.setRow (ab a) (aQ f (l.set ix.toNat u) T)) st')
  simp[execOp,r,Instr.storeAt,cT Y,cT Z,Instr.sureAddr,storeVar,sizeOf,typeInfo,hi,h1',b]
theorem St.freezeM{c:Codec α}{a:Option Addr}{e nn cc:Nat}{l:List α}{T:List Value}(st:St m (bM a (aQ f l T) e::own) w)(G:OAS a nn cc c.sz T)(E:List.length l=nn)(r:∀x,(f x).length=c.sz)(D:∀m x,c.rep m x (f x)):
  ∃m',m.le m'/\St m' (.room a (List.length l) cc e c.sz::own) w/\RepS c m' a cc l:=by
 obtain⟨V,t,g⟩:=G
 cases a with
 |none=>
  simp only at g
  have d:l=[]:=kF aa
  subst d;subst g
  exact⟨m,m.le_refl,st.tail.nilroom e c.sz,RepS.nil c m⟩
 |some p=>
  simp only at g
  obtain⟨y,B⟩:=g
  obtain⟨b,o,s⟩:=p
  simp only[Addr.mk.injEq,true_and] at y
  obtain⟨rfl,rfl⟩:=y
  have n:=nT r l
  have z:(aQ f l T).toList.take (l.flatMap f).length=l.flatMap f:=by simp[aQ]
  have d:St m (.blk b (.cells (aQ f l T) e (0,0))::own) w:=st
  obtain⟨m',K,M,R,S,U,Y⟩:=St.know (b:=b) (cs:=l.flatMap f) d.tail (d.head_ne rfl) d.head.1 z (λo v A=>by rw[d.head.2.1 o] at A;cases A)
  have h:(aQ f l T).size=cc*c.sz:=by simp[aQ,n,E,B]
  refine⟨m',K,M.cons ⟨rfl,rfl,by omega,t,⟨_,d.head.1,h⟩,λo F=>S o (by rw[n];exact F),by rw[U];exact d.head.2.2⟩ ?_,?_⟩
  .intro k u;simp[Piece.block] at u;subst u;exact d.head_ne rfl
  exact RepS.of_cells (cs:=l.flatMap f) aa t (λj x H=>by
   have u:((l.flatMap f).drop (j*c.sz)).take c.sz=f x:=by
    apply fN
    intro q
    rw[List.getElem?_take]
    split
    .rename_i hq
     rw[List.getElem?_drop,AK r l j x q H hq]
    rename_i hq;rw[List.getElem?_eq_none (by rw[r];omega)]
   rw[u];exact D m' x) R
variable {ks:List (Nat×(World->Prop))} {k fuel:Nat} {S:World->Prop} {done:List Nat}
theorem qIy{t t2:TypeId}{x y:Operand}{a b r:BA}(i d:Nat)(o:dH ops L i=some (some d,.binOp .add t x y t2))(l:Nat.blt d n=true)
  (p:mZ ops ks k i done=true) (f:(k,S)∈ks) (g:QP Q) (s:bS L x=some (.string a)) (u:bS L y=some (.string b)) (c:bW a b=some r)
  (h:WA P n ops Q ks fuel (done++[i]) ((d,.string r)::L) w):WA P n ops Q ks (fuel+1) done L w:=by
 unfold bW at c
 split at c
 .rename_i hb
  simp only[jM] at c;subst c
  refine yE i d _ _ o l p f g (λq g w' _=> ?_) h
  have e:IntKind.i64.max=9223372036854775807:=by decide
  have hb':¬(9223372036854775807<(a.size:Int)+(b.size:Int)):=by simp only[maxLen] at hb;omega
  simp[execOp,g,cT s,cT u,eqGuard,binOp,Op.stringOp,e,hb']
 cases c
theorem iT(is:List Nat)(f:Region.ready .any ops (marks done ops.size)=is)(e:is≠[])
  (h:∀i∈is,dZ P n ops Q i (λL' w'=>TS ks (marks (done++[i]) ops.size) w'/\WA P n ops Q ks fuel (done++[i]) L' w') L w):WA P n ops Q ks (fuel+1) done L w:=by
 intro _ a l
 refine⟨λc=>(by rw[f] at c;exact absurd c e),λj d=> ?_⟩
 rw[f] at d
 refine TV (λa' w' h'=> ?_) (h j d a l)
 obtain⟨L',g,b,k⟩:=h'
 have:=k b a' g
 rw[MV] at b
 rw[MV] at this
 exact⟨b,this⟩
theorem lH{p:Nat->Prop}{a b:Nat}(c:p a)(d:p b):∀i∈[a,b],p i:=by
 intro i hi;simp only[jG,gC,hY] at hi
 rcases hi with rfl|rfl<;>assumption
theorem MW{p:Nat->Prop}{a b c:Nat}(d:p a)(e:p b)(f:p c):∀i∈[a,b,c],p i:=by
 intro i hi;simp only[jG,gC,hY] at hi
 rcases hi with rfl|rfl|rfl<;>assumption
theorem rX{q:Nat}{S:World->Prop}{t e:TypeId}{x y:Operand}{a:Option Addr}{nn cc k:Nat}{T:List Value}{l:List α}{kd:IntKind}{ix:Int}{z:α}(i d:Nat)(D:dH ops L i=some (some d,.indexAddr t x y))(A:Nat.blt d n=true)
  (g:mZ ops ks q i done=true) (b:(q,S)∈ks) (c:QP Q)
  (o:bS L x=some (.slice a nn cc)) (F:bS L y=some (.int kd ix)) (hi:nU P t=some (e,k)) (E:OAS a nn cc k T) (B:List.length l=nn) (G:aO l ix=some z)
  (h:WA P n ops Q ks fuel (done++[i]) ((d,.pointer (some ⟨ab a,ix.toNat*k,none⟩))::L) w):WA P n ops Q ks (fuel+1) done L w:=by
 obtain⟨r,inf,s,u⟩:=wC hi
 obtain⟨p,_,f⟩:=CY G
 have v:=E.some B f
 refine yE i d _ _ D A g b c (λq c w' _=> ?_) h
 have hlt':ix<(nn:Int):=by omega
 rw[v] at o
 simp[execOp,c,Instr.indexAt,cT o,cT F,asIntOf,run_underlying r,p,hlt',sizeOf,typeInfo,s,u,wM]
theorem rY{q:Nat}{S:World->Prop}{t e:TypeId}{x:Operand}{a:Option Addr}{nn cc k:Nat}{l:List α}{T:List Value}{ix:Int}{z:α}{o:Nat}{v:Value}(i d:Nat)(y:∀x,(f x).length=k)(po:Nat)(E:po=ix.toNat*k+o)(V:dH ops L i=some (some d,.load t x))(M:Nat.blt d n=true)
  (F:mZ ops ks q i done=true) (p:(q,S)∈ks) (r:QP Q) (G:∀w,S w->Piece.holds m w (bM a (aQ f l T) e))
  (hx:bS L x=some (.pointer (some ⟨ab a,po,none⟩))) (Y:OAS a nn cc k T) (U:List.length l=nn) (hz:aO l ix=some z) (Z:qK P t ((f z).drop o)=some v)
  (h:WA P n ops Q ks fuel (done++[i]) ((d,v)::L) w):WA P n ops Q ks (fuel+1) done L w:=by
 obtain⟨h0,hz',B⟩:=CY hz
 have H:=Y.some U B
 subst E
 refine yE i d _ _ V M F p r (λq r w' hw'=> ?_) h
 have D:=G w' hw'
 rw[TQ H] at D
 have K:=D.1
 have R:=AE (P:=P) (w:=w') (t:=t) (b:=ab a) (o:=ix.toNat*k+o) (cs:=(f z).drop o) (v:=v) (λj u s=>by
  rw[List.getElem?_drop] at s
  have A:o+j<k:=by rw[<-y z];exact(List.getElem?_eq_some_iff.1 s).1
  have c:=AK y l ix.toNat z (o+j) hz' A
  rw[s] at c
  have g:=(List.getElem?_eq_some_iff.1 c).1
  simp only[World.cell?,K,aQ,List.getElem?_toArray]
  have e:ix.toNat*k+o+j=ix.toNat*k+(o+j):=by omega
  rw[e,List.getElem?_append_left g]
  simpa using c) Z
 simp[execOp,r,Instr.loadAt,cT hx,Instr.sureAddr,R]
def yX(by_:Nat)(k:List α):Option (List α):=if k.length*by_<=140737488355328/\k.length<=maxLen then some k else none
theorem Zn{c:Codec α}(g:∀m x cs,c.rep m x cs->cs=f x){k:List α}{cs:List Value}(b:cs.length=k.length*c.sz)(a:∀i y,k[i]? =some y->c.rep m y ((cs.drop (i*c.sz)).take c.sz)):cs=k.flatMap f:=by
 induction k generalizing cs with
 |nil=>simp at b;subst b;rfl
 |cons x k n=>
  have d:=g _ _ _ (a 0 x rfl)
  simp only[Nat.zero_mul,kP] at d
  have h:=n (cs:=cs.drop c.sz) (by simp only[gD,b,jS,kN];omega) (λi y l=>by
   have:=a (i+1) y (by simpa using l)
   rw[List.drop_drop]
   have e:c.sz+i*c.sz=(i+1)*c.sz:=by rw[kN];omega
   rw[e];exact this)
  rw[kU,<-d,<-h,gW]
theorem CO{a:Option Addr}{e sz:Nat}(st:St m (.room a 0 0 e sz::own) w):St m (bM a (aQ f [] []) e::own) w:=by
 cases a with
 |none=>exact st.tail.nilroom 0 0
 |some p=>
  obtain⟨l,n,q,r,⟨cur,d,s⟩,g,h⟩:=st.head
  have b:cur=aQ f [] []:=by
   have:cur.size=0:=by omega
   rw[Array.size_eq_zero_iff.1 this];rfl
  refine st.tail.cons ⟨by rw[d,b],⟨λo=>g o aa,h⟩⟩ ?_
  intro k c
  have hk':some p.block=some k:=c
  simp only[jM] at hk';subst hk'
  exact st.head_ne rfl
end
theorem qFm{m m':Mem}{w:World}{a:Option Addr}{cs:Array Value}{e:TypeId}(h:Piece.holds m' w (bM a cs e))(b:m.le m'):Piece.holds m w (bM a cs e):=by
 cases a with
 |none=>exact h
 |some p=>exact Piece.holds_anti (o:= .cells cs e (0,0)) h b
section
variable {P:Program} {n:Fr} {ops:Array Oper} {Q:Exit->Act->World->Prop} {L:bO} {w:World}
theorem aB{id:Nat}{y:Code}(h:WO P n ops (Exit.then (λa w=>y.wpIn (iK none) 0 P Q a w) Q) 0 L w):W none P n (.seq (.region id ops false) y) Q L w:=aF (oL h)
theorem Cf{i:Nat}{ρ:Option Nat}{y:Code}(hi:ops.size=i)(h:W ρ P n y Q L w):WO P n ops (Exit.then (λa w=>y.wpIn (iK ρ) 0 P Q a w) Q) i L w:=Qi hi (aY h)
end
end Go.Dc
end
section
namespace Go.Dc
section
variable {P:Program} {n:Fr} {ops:Array Oper} {Q:Exit->Act->World->Prop} {i d:Nat} {L:bO} {w:World} {m:Mem} {own:List Piece} {N:bO->World->Prop}
def lK(a:Option Addr)(cap l k:Nat):Option Addr:=if cap=l then a else a.map λp=>p.add (l*k)
theorem ZT{b o cap l k:Nat}(h:l<cap):lK (some ⟨b,o,none⟩) cap l k=some ⟨b,o+l*k,none⟩:=by
 grind [lK,wM]
theorem Hp{t e k:Nat}{x:Operand}{lo hi:Option Operand}{a:Option Addr}{nn cap:Nat}{li hix:Int}(g:bS L x=some (.slice a nn cap))(v:nU P t=some (e,k))
  (p:(lo=none/\li=0)\/∃y kd,lo=some y/\bS L y=some (.int kd li)) (n:(hi=none/\hix=nn)\/∃y kd,hi=some y/\bS L y=some (.int kd hix)) (h:0<=li) (u:li<=hix) (l:hix<=cap) (q:Oper) (f:q.op= .slice t x lo hi none) (w:World):
  (execOp (nX L) q).run P w= .ok (.value (.slice (lK a cap li.toNat k) (hix.toNat-li.toNat) (cap-li.toNat))) w:=by
 obtain⟨b,inf,c,d⟩:=wC v
 have r:0<=hix:=by omega
 have o:li<=max hix 0:=by omega
 rcases p with ⟨rfl,rfl⟩|⟨y,kd,rfl,s⟩<;>rcases n with ⟨rfl,rfl⟩|⟨y',kd',rfl,hy'⟩
 .simp[execOp,f,Instr.sliceAt,Instr.slice,Instr.sliceBounds,run_underlying b,cT g,sizeOf,typeInfo,c,d,lK]
 .simp[execOp,f,Instr.sliceAt,Instr.slice,Instr.sliceBounds,Instr.sliceBound,asIntOf,run_underlying b,cT g,cT hy',r,l,sizeOf,typeInfo,c,d,lK]
 .have:li<=(nn:Int):=u
  simp[execOp,f,Instr.sliceAt,Instr.slice,Instr.sliceBounds,Instr.sliceBound,asIntOf,run_underlying b,cT g,cT s,h,this,sizeOf,typeInfo,c,d,lK]
 simp[execOp,f,Instr.sliceAt,Instr.slice,Instr.sliceBounds,Instr.sliceBound,asIntOf,run_underlying b,cT g,cT s,cT hy',r,l,h,o,sizeOf,typeInfo,c,d,lK]
theorem Ja{t e k:Nat}{x:Operand}{lo hi:Option Operand}{a:Option Addr}{nn cap:Nat}{li hix:Int}(v:Value)(r:dH ops L i=some (some d,.slice t x lo hi none))(p:Nat.blt d n=true)(z:bS L x=some (.slice a nn cap))(o:nU P t=some (e,k))
  (c:(lo=none/\li=0)\/∃y kd,lo=some y/\bS L y=some (.int kd li)) (b:(hi=none/\hix=nn)\/∃y kd,hi=some y/\bS L y=some (.int kd hix)) (f:0<=li) (g:li<=hix) (l:hix<=cap) (u: .slice (lK a cap li.toNat k) (hix.toNat-li.toNat) (cap-li.toNat)=v)
  (h:N ((d,v)::L) w):dZ P n ops Q i N L w:=by
 subst u
 exact lO r p (λq s=>Hp z o c b f g l q s w) h
theorem qCq{ks:List (Nat×(World->Prop))}{q fuel:Nat}{S:World->Prop}{done:List Nat}{t e k:Nat}{x:Operand}{lo hi:Option Operand}{a:Option Addr}{nn cap:Nat}{li hix:Int}(i d:Nat)(v:Value)(u:dH ops L i=some (some d,.slice t x lo hi none))(s:Nat.blt d n=true)
  (g:mZ ops ks q i done=true) (b:(q,S)∈ks) (z:QP Q) (B:bS L x=some (.slice a nn cap)) (r:nU P t=some (e,k))
  (f:(lo=none/\li=0)\/∃y kd,lo=some y/\bS L y=some (.int kd li)) (c:(hi=none/\hix=nn)\/∃y kd,hi=some y/\bS L y=some (.int kd hix)) (l:0<=li) (o:li<=hix) (p:hix<=cap) (A: .slice (lK a cap li.toNat k) (hix.toNat-li.toNat) (cap-li.toNat)=v)
  (h:WA P n ops Q ks fuel (done++[i]) ((d,v)::L) w):WA P n ops Q ks (fuel+1) done L w:=by
 grind [yE,Hp]
theorem Jq{b o k nn cap sl:Nat}{C:Array Value}{e:TypeId}{S:List Value}(c:w.heap[b]? =some (.cells C e (0,0)))(a:(C.toList.drop o).take (nn*k)=S)(d:S.length=nn*k):
  (Builtin.firstCells k nn (.slice (some ⟨b,o,none⟩) sl cap)).run P w= .ok S.toArray w:=by
 grind [Go.run_firstCells_some,wM,Go.World.cell?]
theorem qDp{t u e k:Nat}{x y:Operand}{b o dl dc sl sc:Nat}{a:Option Addr}{C:Array Value}{e0:TypeId}(S C':List Value)(F:dH ops L i=some (some d,.call {callee:= .builtin .copy,args:= #[x,y],argTypes:= #[t,u]}))(D:Nat.blt d n=true)
  (G:bS L x=some (.slice (some ⟨b,o,none⟩) dl dc)) (H:bS L y=some (.slice a sl sc)) (B:nU P t=some (e,k)) (st:St m (.blk b (.cells C e0 (0,0))::own) w)
  (l:(Builtin.firstCells k (Nat.min sl dl) (.slice a sl sc)).run P w= .ok S.toArray w) (f:o+S.length<=C.size) (g:∀v∈S,v.oneCell'=true) (A:C.toList.take o++S++C.toList.drop (o+S.length)=C')
  (h:∀w',St m (.blk b (.cells C'.toArray e0 (0,0))::own) w'->N ((d,.int .i64 ((Nat.min sl dl:Nat):Int))::L) w'):dZ P n ops Q i N L w:=by
 subst A
 obtain⟨p,inf,r,s⟩:=wC B
 have c:=run_storeCells_at P b o e0 S 0 C w st.head.1 (by simpa using f) g
 simp only[fB] at c
 have st':=st.set (w':=w.setRow b (C.toList.take o++S++C.toList.drop (o+S.length)).toArray) (o':= .cells (C.toList.take o++S++C.toList.drop (o+S.length)).toArray e0 (0,0)) ⟨⟨rfl,rfl⟩,rfl,mQ⟩ (setRow_heap w b C _ e0 _ st.head.1) (λj _ E=>setRow_other w b j _ E)
 refine GS (v:=undef) (w':=w) F D (λq z=> ?_)
 refine⟨_,_,?_,h _ st'⟩
 rw[<-s] at l
 simp only[execOp,z,resolve,Sem.run_bind,Sem.run_pure,Result.andThen_ok,invoke,builtin]
 simp[cT G,cT H,Builtin.copy_,run_underlying p,sizeOf,typeInfo,r,Builtin.lenOf,l,c,goInt]
theorem qDv{i:Nat}{op:Op}{L:bO}{w w':World}{v:Value}(l:dH ops L i=some (none,op))
  (c:∀o:Oper,o.op=op->(execOp (nX L) o).run P w= .ok (.value v) w')
  (h:N L w'):dZ P n ops Q i N L w:=by
 obtain⟨o,d,e,f,g,k⟩:=GQ l
 intro a b
 unfold oZ
 simp only[d,b.wanted g,jJ]
 rw[b.exec k,c o f,Oper.uponIn_value,e]
 exact⟨_,b,h⟩
theorem qAj{t e k zs:Nat}{x:Operand}{b o dl dc:Nat}{C:Array Value}{e0:TypeId}{z:Value}(C':List Value)(y:dH ops L i=some (none,.call {callee:= .builtin .clear,args:= #[x],argTypes:= #[t]}))
  (B:bS L x=some (.slice (some ⟨b,o,none⟩) (dl+1) dc)) (p:nU P t=some (e,k)) (c:(P.info? e).bind (·.zero)=some z) (D:z.cells.size=zs) (A:∀v∈z.cells.toList,v.oneCell'=true) (st:St m (.blk b (.cells C e0 (0,0))::own) w)
  (r:o+(dl+1)*zs<=C.size) (l:C.toList.take o++(Builtin.zeroCells z.cells (dl+1)).toList++C.toList.drop (o+(Builtin.zeroCells z.cells (dl+1)).toList.length)=C')
  (h:∀w',St m (.blk b (.cells C'.toArray e0 (0,0))::own) w'->N L w'):dZ P n ops Q i N L w:=by
 subst l
 obtain⟨f,inf,d,E⟩:=wC p
 have u:(Builtin.zeroCells z.cells (dl+1)).toList.length=(dl+1)*zs:=by grind [Go.size_zeroCells]
 have hone':∀v∈(Builtin.zeroCells z.cells (dl+1)).toList,v.oneCell'=true:=by
  grind [Go.Builtin.zeroCells,Nat.mod_lt]
 have a:=run_storeCells_at P b o e0 _ 0 C w st.head.1 (by grind) hone'
 simp only[fB] at a
 have st':=st.set (w':=w.setRow b (C.toList.take o++(Builtin.zeroCells z.cells (dl+1)).toList++C.toList.drop (o+(Builtin.zeroCells z.cells (dl+1)).toList.length)).toArray) (o':= .cells (C.toList.take o++(Builtin.zeroCells z.cells (dl+1)).toList++C.toList.drop (o+(Builtin.zeroCells z.cells (dl+1)).toList.length)).toArray e0 (0,0)) ⟨⟨rfl,rfl⟩,rfl,mQ⟩ (setRow_heap w b C _ e0 _ st.head.1) (λj _ s=>setRow_other w b j _ s)
 rw[d] at c
 simp only[j0] at c
 refine qDv (v:= .tuple #[]) y (λq g=> ?_) (h _ st')
 simp only[execOp,g,resolve,Sem.run_bind,Sem.run_pure,Result.andThen_ok,invoke,builtin]
 simp[cT B,Builtin.clear_,run_underlying f,zeroValue,typeInfo,d,c,a]
end
end Go.Dc
end
namespace Go.Dc
section
variable {P:Program} {n:Fr} {ops:Array Oper} {Q:Exit->Act->World->Prop} {i d:Nat} {L:bO} {w:World} {m:Mem} {own:List Piece} {N:bO->World->Prop}
variable {ks:List (Nat×(World->Prop))} {fuel:Nat} {done:List Nat}
def pM(a b:BA):Int:=
 match(List.range (min a.size b.size)).find? λi=>a[i]! !=b[i]! with
 |some i=>if a[i]! <b[i]! then-1 else 1
 |none=>if a.size<b.size then-1 else if a.size>b.size then 1 else 0
theorem qAq{f:FuncId}{fn:Func}{x y:Operand}{ts:Array TypeId}{s u:BA}(g:dH ops L i=some (some d,.call {callee:= .value (.func f),args:= #[x,y],argTypes:=ts}))(c:Nat.blt d n=true)
  (k : bS L x = some (.string s)) (l : bS L y = some (.string u)) (e : P.funcs[f]? = some fn) (a : (fn.name == "runtime.NumGoroutine", fn.body.isNone, (Extern.findNext fn).isNone) = (false, true, true)) (b : Extern.find fn = some Extern.BytealgCompare.compare)
  (h:N ((d,.int .i64 (pM s u))::L) w):dZ P n ops Q i N L w:=by
 refine XS [.string s,.string u] _ g c (by simp[cT k,cT l]) e a b ?_ h
 rfl
variable {α:Type} {f:α->List Value}
def lR(l:List α)(lo hi:Int):Option Unit:=if 0<=lo/\lo<=hi/\hi<=l.length then some () else none
theorem YG{l:List α}{lo hi:Int}{u:Unit}(h:lR l lo hi=some u):0<=lo/\lo<=hi/\hi<=l.length:=by
 unfold lR at h
 split at h
 .assumption
 cases h
theorem ZD{t e k:Nat}{x:Operand}{lo hi:Option Operand}{a:Option Addr}{nn cc:Nat}{T:List Value}{l:List α}{li hix:Int}{u:Unit}(q:dH ops L i=some (some d,.slice t x lo hi none))(p:Nat.blt d n=true)(s:bS L x=some (.slice a nn cc))(o:nU P t=some (e,k))
  (c:(lo=none/\li=0)\/∃y kd,lo=some y/\bS L y=some (.int kd li)) (b:(hi=none/\hix=nn)\/∃y kd,hi=some y/\bS L y=some (.int kd hix)) (r:OAS a nn cc k T) (A:List.length l=nn) (v:lR l li hix=some u)
  (h:N ((d,.slice (lK a cc li.toNat k) (hix.toNat-li.toNat) (cc-li.toNat))::L) w):dZ P n ops Q i N L w:=by
 obtain⟨f,g,z⟩:=YG v
 have:=r.1
 exact Ja _ q p s o c b f g aa rfl h
theorem TX{ks:List (Nat×(World->Prop))}{q fuel:Nat}{S:World->Prop}{done:List Nat}{t e k:Nat}{x:Operand}{lo hi:Option Operand}{a:Option Addr}{nn cc:Nat}{T:List Value}{l:List α}{li hix:Int}{u:Unit}(i d:Nat)(v:dH ops L i=some (some d,.slice t x lo hi none))(s:Nat.blt d n=true)
  (g:mZ ops ks q i done=true) (b:(q,S)∈ks) (z:QP Q) (B:bS L x=some (.slice a nn cc)) (r:nU P t=some (e,k))
  (f:(lo=none/\li=0)\/∃y kd,lo=some y/\bS L y=some (.int kd li)) (c:(hi=none/\hix=nn)\/∃y kd,hi=some y/\bS L y=some (.int kd hix)) (A:OAS a nn cc k T) (F:List.length l=nn) (D:lR l li hix=some u)
  (h:WA P n ops Q ks fuel (done++[i]) ((d,.slice (lK a cc li.toNat k) (hix.toNat-li.toNat) (cc-li.toNat))::L) w):WA P n ops Q ks (fuel+1) done L w:=by
 obtain⟨o,p,E⟩:=YG D
 have:=A.1
 exact qCq i d _ v s g b z B r f c o p aa rfl h
theorem qAw{t e:TypeId}{len k:Nat}{parts:Array (Nat×Operand)}{xs:List α}{cs:List Value}(u:∀x,(f x).length=k)(r:dH ops L i=some (some d,.buildSlice t len parts))(o:Nat.blt d n=true)
  (c:∀w:World,(Instr.buildSlice t len (parts.map λp=>(p.1,nX L p.2))).run P w= .ok (.slice (some ⟨w.heap.size,0,none⟩) len len) (w.alloc (.cells cs.toArray e)))
  (l:cs=xs.flatMap f) (a:len=xs.length) (b:Nat.ble len maxLen=true) (st:St m own w)
  (h:∀a' cap T w',OAS a' (List.length xs) cap k T->St m (bM a' (aQ f xs T) e::own) w'->N ((d,.slice a' (List.length xs) cap)::L) w'):dZ P n ops Q i N L w:=by
 subst a;subst l
 have g:=st.alloc (w':=w.alloc (.cells (xs.flatMap f).toArray e)) ⟨⟨rfl,rfl⟩,rfl,mQ⟩ rfl
 refine lO (w':=w.alloc (.cells (xs.flatMap f).toArray e)) r o (λq s=> ?_) (h (some ⟨w.heap.size,0,none⟩) xs.length [] _ ⟨jH _,gK b,rfl,rfl⟩ ?_)
 .simp[execOp,s,c w]
 unfold aQ
 rw[gT]
 exact g
theorem qFo{t e k:Nat}{x y:Operand}{kd:IntKind}{a:Option Addr}{nn cc:Nat}{T:List Value}{l r:List α}{hix:Int}{e0:TypeId}(z:∀x,(f x).length=k)(D:dH ops L i=some (some d,.slice t x none (some y) none))(v:Nat.blt d n=true)(G:bS L x=some (.slice a nn cc))(H:bS L y=some (.int kd hix))(s:nU P t=some (e,k))
  (st:St m (bM a (aQ f l T) e0::own) w) (E:OAS a nn cc k T) (B:List.length l=nn) (g:qP l 0 hix=some r)
  (h:∀T',OAS a (List.length r) cc k T'->St m (bM a (aQ f r T') e0::own) w->N ((d,.slice a (List.length r) cc)::L) w):dZ P n ops Q i N L w:=by
 unfold qP at g
 split at g
 .rename_i hh
  obtain⟨M,R,S⟩:=hh
  simp only[jM,Int.toNat_zero,kP] at g
  subst g
  obtain⟨j,rfl⟩:∃j:Nat,hix=(j:Int):=⟨hix.toNat,by omega⟩
  have A:j<=l.length:=by omega
  obtain⟨U,K,o⟩:=E
  have c:(l.take j).length=j:=by rw[kS];omega
  have b:aQ f (l.take j) ((l.drop j).flatMap f++T)=aQ f l T:=by
   unfold aQ
   rw[<-jW,<-fD,gW]
  have q:=nT z (l.drop j)
  have hs':OAS a (List.length (l.take j)) cc k ((l.drop j).flatMap f++T):=by
   rw[c]
   refine⟨by omega,K,?_⟩
   cases a with
   |none=>exact o
   |some p=>
    refine⟨o.1,?_⟩
    have:=o.2
    rw[jP,q,gD,<-this,<-B,Nat.sub_mul]
    have:=kD k A
    omega
  have F:(Value.slice (lK a cc (0:Int).toNat k) ((j:Int).toNat-(0:Int).toNat) (cc-(0:Int).toNat))= .slice a (List.length (l.take j)) cc:=by
   rw[c]
   simp only[Int.toNat_zero,jT,Nat.sub_zero]
   congr 1
   unfold lK
   split
   .rfl
   cases a with
   |none=>rfl
   |some p=>
    have:=o.1
    rw[Nat.zero_mul]
    show some (p.add 0)=some p
    rw[this]
    rfl
  refine Ja (li:=0) (hix:=(j:Int)) _ D v G s (.inl ⟨rfl,rfl⟩) (.inr ⟨y,kd,rfl,H⟩) aa aa aa F (h _ hs' (by
   have u:aQ f (List.take (j:Int).toNat l) ((l.drop j).flatMap f++T)=aQ f l T:=b
   rw[u];exact st))
 cases g
def qM(l:List α)(d0 s0:Nat):List α:=l.take d0++(l.drop s0).take (min (l.length-s0) (l.length-d0))++l.drop (d0+min (l.length-s0) (l.length-d0))
def tE(l:List α)(d0 s0:Int):Option (List α):=if 0<=d0/\d0<=l.length/\0<=s0/\s0<=l.length/\0<l.length then some (qM l d0.toNat s0.toNat) else none
theorem qCf{l:List α}{d0 s0:Nat}(a:d0<=l.length):(qM l d0 s0).length=l.length:=by
 simp only[qM,jP,kS,gD];omega
theorem Il{l r:List α}{d0 s0:Int}(h:tE l d0 s0=some r):∃d s:Nat,d0=(d:Int)/\s0=(s:Int)/\d<=l.length/\s<=l.length/\0<l.length/\r=qM l d s:=by
 unfold tE at h
 split at h
 .rename_i hb
  simp only[jM] at h
  exact⟨d0.toNat,s0.toNat,by omega,by omega,by omega,by omega,hb.2.2.2.2,h.symm⟩
 cases h
theorem Li{l r:List α}{d0 s0:Int}(h:tE l d0 s0=some r):r.length=l.length:=by
 obtain⟨d,s,_,_,a,_,_,rfl⟩:=Il h
 exact qCf a
theorem ZL{k:Nat}(a:∀x,(f x).length=k):∀(l:List α) (j:Nat),(l.flatMap f).take (j*k)=(l.take j).flatMap f
 |[],j=>by simp
 |x::l,0=>by simp
 |x::l,j+1=>by
  rw[kU,List.take_succ_cons,kU,List.take_append,a,show(j+1)*k-k=j*k by rw[kN,hR,fY],ZL a l j,gI (by rw[a,kN];omega)]
theorem Kv{k:Nat}(a:∀x,(f x).length=k):∀(l:List α) (j:Nat),(l.flatMap f).drop (j*k)=(l.drop j).flatMap f
 |[],j=>by simp
 |x::l,0=>by simp
 |x::l,j+1=>by
  rw[kU,List.drop_succ_cons,fU,a,show(j+1)*k-k=j*k by rw[kN,hR,fY],Kv a l j,jZ (by rw[a,kN];omega),kT]
theorem SR{k:Nat}(a:∀x,(f x).length=k){l:List α}{T:List Value}{j:Nat}(c:j<=l.length):(aQ f l T).toList.take (j*k)=(l.take j).flatMap f:=by
 have b:=nT a l
 simp only[aQ]
 rw[gM (by rw[b];exact kD _ c),ZL a]
theorem SP{k:Nat}(a:∀x,(f x).length=k){l:List α}{T:List Value}{j:Nat}(c:j<=l.length):(aQ f l T).toList.drop (j*k)=(l.drop j).flatMap f++T:=by
 have b:=nT a l
 simp only[aQ]
 rw[List.drop_append_of_le_length (by rw[b];exact kD _ c),Kv a]
theorem Kf{t u e k:Nat}{x y:Operand}{a:Option Addr}{nn cc:Nat}{T:List Value}{l r:List α}{e0:TypeId}{d0 s0 F G:Int}(c:∀x,(f x).length=k)(B:∀x,∀v∈f x,v.oneCell'=true)(hk:0<k)
  (ho:dH ops L i=some (some d,.call {callee:= .builtin .copy,args:= #[x,y],argTypes:= #[t,u]})) (hd:Nat.blt d n=true)
  (p:bS L x=some (.slice (lK a cc d0.toNat k) (F.toNat-d0.toNat) (cc-d0.toNat))) (s:bS L y=some (.slice (lK a cc s0.toNat k) (G.toNat-s0.toNat) (cc-s0.toNat))) (e1:F=(l.length:Int)) (e2:G=(l.length:Int)) (hI:nU P t=some (e,k))
  (st:St m (bM a (aQ f l T) e0::own) w) (S:OAS a nn cc k T) (R:List.length l=nn) (hz:tE l d0 s0=some r)
  (h:∀(v:Int) w',St m (bM a (aQ f r T) e0::own) w'->N ((d,.int .i64 v)::L) w'):dZ P n ops Q i N L w:=by
 obtain⟨dd,ss,rfl,rfl,D,E,g3,rfl⟩:=Il hz
 have A:=S.some R (show 0<l.length from g3)
 subst R
 obtain⟨q1,q2,q3⟩:=S
 rw[A] at q3
 simp only[true_and] at q3
 subst e1;subst e2
 rw[A] at p s st
 rw[A] at h
 generalize ab a=b at*
 have K:=nT c l
 simp only[jT] at p s
 have z:St m (.blk b (.cells (aQ f l T) e0 (0,0))::own) w:=st
 have H:(aQ f l T).size=cc*k:=by
  simp only[aQ,gQ,jP,K];omega
 have sl:∀j,j<=l.length->∃o,lK (some ⟨b,0,none⟩) cc j k=some ⟨b,o,none⟩/\o<=j*k/\(j<l.length->o=j*k):=by
  intro j g
  by_cases hc:cc=j
  .exact⟨0,by simp[lK,hc],jQ _,λh=>by omega⟩
  exact⟨j*k,by rw[ZT aa,gN],jH _,λ_=>rfl⟩
 obtain⟨o1,U,a1,V⟩:=sl dd D
 obtain⟨o2,Y,a2,Z⟩:=sl ss E
 rw[U] at p
 rw[Y] at s
 generalize hM:min (l.length-ss) (l.length-dd)=M
 have hM':Nat.min (l.length-ss) (l.length-dd)=M:=hM
 have q:(((l.drop ss).take M).flatMap f).length=M*k:=by rw[nT c,kS,gD];congr 1;omega
 have a0:dd*k+M*k<=cc*k:=by rw[<-kN];exact kD _ aa
 refine qDp (((l.drop ss).take M).flatMap f) (aQ f (qM l dd ss) T).toList ho hd p s hI z ?_ ?_ ?_ ?_ ?_
 .rw[hM']
  refine Jq z.head.1 ?_ q
  rcases Nat.eq_zero_or_pos M with g|g
  .simp[g]
  rw[Z aa,SP c E,gM (by rw[nT c,gD];exact kD _ aa),ZL c]
 .rw[q,H];omega
 .intro v hv
  obtain⟨x,_,p⟩:=kL.1 hv
  exact B x v p
 .rw[q]
  rcases Nat.eq_zero_or_pos M with g|g
  .have:qM l dd ss=l:=by simp only[qM,hM,g];simp
   rw[this,g];simp
  rw[V aa,SR c D,<-kN,SP c (show dd+M<=l.length by omega)]
  simp only[qM,hM,aQ,fD,jW]
 intro w' st'
 rw[hM']
 have g:St m (.blk b (.cells (aQ f (qM l dd ss) T) e0 (0,0))::own) w':=by simpa using st'
 exact h _ w' g
theorem Xw{t u e by_ kk:Nat}{x y:Operand}{f:α->List Value}{v:Value}{a:Option Addr}{nn cc:Nat}{T:List Value}{l k r:List α}(H:∀x,(f x).length=kk)
  (ho:dH ops L i=some (some d,.call {callee:= .builtin .append,args:= #[x,y],argTypes:= #[t,u]})) (Z:Nat.blt d n=true)
  (U:bS L x=some (.slice a nn cc)) (hy:bS L y=some v) (st:St m (bM a (aQ f l T) e::own) w) (hs:OAS a nn cc kk T) (hn:List.length l=nn) (hi:wG P t=some (e,kk,by_,kk)) (hu:wV P u e)
  (R:∀w':World,Step w w'->w'.heap=w.heap->PC P w' kk v k.length (k.flatMap f)) (S:dS by_ l k=some r)
  (h:∀a' cap T' w',OAS a' (List.length r) cap kk T'->St m (bM a' (aQ f r T') e::own) w'->N ((d,.slice a' (List.length r) cap)::L) w'):dZ P n ops Q i N L w:=by
 obtain⟨ht,inf,z,E,hz',g,a1,a3⟩:=XC hi
 unfold dS at S
 split at S
 .rename_i hk
  obtain⟨k1,k2⟩:=hk
  simp only[jM] at S;subst S
  subst hn
  have B:=R w (Step.refl w) rfl
  have Y:=nT H l
  have V:=nT H k
  obtain⟨q1,q2,F⟩:=hs
  by_cases hroom:l.length+k.length<=cc
  .cases a with
   |none=>
    simp only at F
    have K:l=[]:=kF aa
    have A:k=[]:=kF aa
    subst K;subst A;subst F
    refine GS (v:=undef) (w':=w) ho Z (λo G=> ?_)
    have c:=Fc w t u o.type e inf ht hu E (x:=v) (news:=[]) (by rw[g];exact B)
    refine⟨_,_,?_,h none 0 [] w ⟨jH _,jQ _,rfl⟩ st⟩
    simp only[execOp,G,resolve,Sem.run_bind,Sem.run_pure,Result.andThen_ok,invoke,builtin]
    simp only[kH] at U
    simp[cT U,cT hy,c]
   |some p=>
    simp only at F
    obtain⟨M,hT⟩:=F
    obtain⟨b,o,s⟩:=p
    simp only[Addr.mk.injEq,true_and] at M
    obtain⟨rfl,rfl⟩:=M
    have D:St m (.blk b (.cells (aQ f l T) e (0,0))::own) w:=st
    have a2:(aQ f l T).size=cc*kk:=by
     simp only[aQ,gQ,jP,Y];omega
    have a0:l.length*kk+k.length*kk<=cc*kk:=by rw[<-kN];exact kD _ hroom
    have hC:(aQ f l T).toList.take (l.length*inf.size)++k.flatMap f++(aQ f l T).toList.drop (l.length*inf.size+(k.flatMap f).length)=(aQ f (l++k) (T.drop (k.length*kk))).toList:=by
     rw[g,V]
     have A:(aQ f l T).toList.take (l.length*kk)=l.flatMap f:=by
      have:=SR (T:=T) H (jH l.length)
      rwa[hK] at this
     have e2:(aQ f l T).toList.drop (l.length*kk+k.length*kk)=T.drop (k.length*kk):=by
      have:=SP (T:=T) H (jH l.length)
      rw[List.drop_length,List.flatMap_nil,kT] at this
      rw[<-List.drop_drop,this]
     rw[A,e2]
     simp[aQ,fD]
    refine GS (v:=undef) (w':=w) ho Z (λq G=> ?_)
    have c:=Fw w t u q.type e inf ht hu E (x:=v) (n:=k.length) (news:=k.flatMap f) (by rw[g];exact B) b l.length cc (aQ f l T) D.head.1 hroom (by rw[g,V,a2];exact a0)
    rw[hC] at c
    have st':=D.set (w':=w.setRow b (aQ f (l++k) (T.drop (k.length*kk))).toList.toArray) (o':= .cells (aQ f (l++k) (T.drop (k.length*kk))).toList.toArray e (0,0)) ⟨⟨rfl,rfl⟩,rfl,mQ⟩ (setRow_heap w b (aQ f l T) _ e _ D.head.1) (λj _ hj=>setRow_other w b j _ hj)
    have a4:St m (bM (some ⟨b,0,none⟩) (aQ f (l++k) (T.drop (k.length*kk))) e::own) (w.setRow b (aQ f (l++k) (T.drop (k.length*kk))).toList.toArray):=by simpa[bM] using st'
    have A:(l++k).length=l.length+k.length:=jP
    refine⟨.slice (some ⟨b,0,none⟩) (l++k).length cc,_,?_,h (some ⟨b,0,none⟩) cc (T.drop (k.length*kk)) _ ⟨by rw[A];exact hroom,q2,rfl,?_⟩ a4⟩
    .simp only[execOp,G,resolve,Sem.run_bind,Sem.run_pure,Result.andThen_ok,invoke,builtin]
     simp[cT U,cT hy,c,A]
    rw[A,kN,gD];omega
  have a2:cc<l.length+k.length:=by omega
  refine GS (v:=undef) (w':=w) ho Z (λo G=> ?_)
  have a0:∀w':World,Step w w'->w'.heap=w.heap->(Builtin.firstCells inf.size l.length (.slice a l.length cc)).run P w'= .ok (l.flatMap f).toArray w':=λw' _ hw=>by
   cases a with
   |none=>
    simp only at F
    have K:l=[]:=kF aa
    subst K
    simp[Builtin.firstCells]
   |some p=>
    simp only at F
    obtain⟨M,hT⟩:=F
    obtain⟨b,o,s⟩:=p
    simp only[Addr.mk.injEq,true_and] at M
    obtain⟨rfl,rfl⟩:=M
    have D:St m (.blk b (.cells (aQ f l T) e (0,0))::own) w:=st
    rw[g]
    refine Jq (o:=0) (C:=aQ f l T) (e:=e) (by rw[hw];exact D.head.1) ?_ Y
    rw[kP]
    have:=SR (T:=T) H (jH l.length)
    rwa[hK] at this
  have c:=Fp (ty:=o.type) w t u e inf z ht hu E hz' (n:=k.length) (news:=k.flatMap f) (by rw[g];exact B) a l.length cc (l.flatMap f)
   a0 (λw' hs hw=>by rw[g];exact(R w' hs hw).2.1) a2 (by rw[a1];exact k1) k2
  generalize hgc:grownCap w (l.length+k.length) cc e=gc at c
  have M:l.length+k.length<=gc:=hgc▸grownCap_ge _ _ _ _
  have K:gc<=maxLen:=hgc▸grownCap_le_maxLen _ _ _ _ k2
  have D:(l.flatMap f++k.flatMap f).toArray++Builtin.zeroCells z.cells (gc-(l.length+k.length))=aQ f (l++k) (Builtin.zeroCells z.cells (gc-(l.length+k.length))).toList:=by
   apply Array.ext';simp[aQ]
  rw[D] at c
  have A:(l++k).length=l.length+k.length:=jP
  refine⟨.slice (some ⟨w.heap.size,0,none⟩) (l++k).length gc,_,?_,h (some ⟨w.heap.size,0,none⟩) gc _ _ ⟨by omega,K,rfl,?_⟩ (st.tail.alloc (w':=w.drew.alloc (.cells (aQ f (l++k) (Builtin.zeroCells z.cells (gc-(l.length+k.length))).toList) e)) ⟨⟨rfl,rfl⟩,rfl,mQ⟩ rfl)⟩
  .simp only[execOp,G,resolve,Sem.run_bind,Sem.run_pure,Result.andThen_ok,invoke,builtin]
   simp[cT U,cT hy,c,A]
  simp only[Array.length_toList,size_zeroCells,a3,A,<-kN]
  congr 1;omega
 cases S
theorem FW{t u e by_:Nat}{x y:Operand}{c:Codec α}{v:Value}{a:Option Addr}{nn cc:Nat}{T:List Value}{l k r:List α}(p:∀m x cs,c.rep m x cs->cs=f x)(A:∀x,(f x).length=c.sz)
  (E:dH ops L i=some (some d,.call {callee:= .builtin .append,args:= #[x,y],argTypes:= #[t,u]})) (z:Nat.blt d n=true)
  (H:bS L x=some (.slice a nn cc)) (K:bS L y=some v) (st:St m (bM a (aQ f l T) e::own) w) (F:OAS a nn cc c.sz T) (D:List.length l=nn) (hi:wG P t=some (e,c.sz,by_,c.sz)) (G:wV P u e)
  (B:Gives P c m v k) (M:dS by_ l k=some r)
  (h:∀a' cap T' w',OAS a' (List.length r) cap c.sz T'->St m (bM a' (aQ f r T') e::own) w'->N ((d,.slice a' (List.length r) cap)::L) w'):dZ P n ops Q i N L w:=by
 obtain⟨cs,g,o⟩:=B
 obtain rfl:cs=k.flatMap f:=Zn p (g w st.inv).2.2.1 o
 exact Xw A E z H K st F D hi G (λw' q s=>g w' (st.inv.keep q (λb _ _=>by rw[s]))) M h
theorem qIr{by_:Nat}{k l:List α}(a:yX by_ k=some l):dS by_ [] k=some l:=by
 unfold yX at a
 unfold dS
 simpa using a
theorem qFe{a:Option Addr}{e k:Nat}(st:St m (.room a 0 0 e k::own) w):OAS a 0 0 k []:=by
 cases a with
 |none=>exact OAS.nil _
 |some p=>
  obtain⟨b,c,_⟩:=st.head
  obtain⟨g,off,spot⟩:=p
  simp only at b c
  subst b;subst c
  exact⟨jH _,jQ _,rfl,by simp⟩
theorem Lr{t u e by_:Nat}{x y:Operand}{c:Codec α}{v:Value}{a:Option Addr}{k l:List α}(b:∀m x cs,c.rep m x cs->cs=f x)(o:∀x,(f x).length=c.sz)
  (q:dH ops L i=some (some d,.call {callee:= .builtin .append,args:= #[x,y],argTypes:= #[t,u]})) (g:Nat.blt d n=true)
  (z:bS L x=some (.slice a 0 0)) (A:bS L y=some v) (st:St m (.room a 0 0 e c.sz::own) w) (hi:wG P t=some (e,c.sz,by_,c.sz)) (s:wV P u e)
  (p:Gives P c m v k) (r:yX by_ k=some l)
  (h:∀a' cap T w',OAS a' (List.length l) cap c.sz T->St m (bM a' (aQ f l T) e::own) w'->N ((d,.slice a' (List.length l) cap)::L) w'):dZ P n ops Q i N L w:=
 FW (l:=[]) b o q g z A (CO st) (qFe st) rfl hi s p (qIr r) h
theorem DC{l:List α}{lo hi:Int}{u:Unit}{nn:Nat}(h:lR l lo hi=some u)(d:List.length l=nn):0<=lo/\lo<=hi/\hi<=(nn:Int):=by
 obtain⟨a,b,c⟩:=YG h
 exact⟨a,b,by omega⟩
theorem TN{l:List α}{lo hi ix:Int}{z:α}(e:0<=lo)(c:aO ((l.take hi.toNat).drop lo.toNat) ix=some z):aO l (lo+ix)=some z/\0<=ix/\lo+ix<hi:=by
 obtain⟨b,a,d⟩:=CY c
 rw[List.getElem?_drop,List.getElem?_take] at a
 split at a
 .rename_i g3
  refine⟨?_,b,by omega⟩
  unfold aO
  rw[jB aa,show(lo+ix).toNat=lo.toNat+ix.toNat by omega]
  exact a
 cases a
theorem Fu{t e k:Nat}{x y:Operand}{a:Option Addr}{nn cc:Nat}{T:List Value}{l:List α}{kd:IntKind}{lo hi ix:Int}{z:α}(f:bS L x=some (.slice (lK a cc lo.toNat k) (hi.toNat-lo.toNat) (cc-lo.toNat)))(D:bS L y=some (.int kd ix))(hi':nU P t=some (e,k))
  (d:OAS a nn cc k T) (v:List.length l=nn) (B:0<=lo/\lo<=hi/\hi<=(nn:Int)) (E:aO ((l.take hi.toNat).drop lo.toNat) ix=some z) (q:Oper) (A:q.op= .indexAddr t x y) (w:World):
  (execOp (nX L) q).run P w= .ok (.value (.pointer (some ⟨ab a,(lo+ix).toNat*k,none⟩))) w:=by
 obtain⟨p,inf,r,s⟩:=wC hi'
 obtain⟨F,K,v2⟩:=B
 obtain⟨n,o,H⟩:=TN F E
 obtain⟨_,_,c⟩:=CY n
 have u:=d.some v c
 have G:=d.1
 rw[u,ZT aa] at f
 generalize ab a=b at*
 have hlt':ix<((hi.toNat-lo.toNat:Nat):Int):=by omega
 have g:0+lo.toNat*k+ix.toNat*k=(lo+ix).toNat*k:=by rw[gN,<-kN];congr 1;omega
 have h:lo.toNat*k+ix.toNat*k=(lo+ix).toNat*k:=by rw[<-g,gN]
 simp[execOp,A,Instr.indexAt,cT f,cT D,asIntOf,run_underlying p,o,hlt',sizeOf,typeInfo,r,s,wM,h]
theorem Xx{t e k:Nat}{x y:Operand}{a:Option Addr}{nn cc:Nat}{T:List Value}{l:List α}{kd:IntKind}{lo hi ix:Int}{z:α}(f:dH ops L i=some (some d,.indexAddr t x y))(b:Nat.blt d n=true)(r:bS L x=some (.slice (lK a cc lo.toNat k) (hi.toNat-lo.toNat) (cc-lo.toNat)))(s:bS L y=some (.int kd ix))(hi':nU P t=some (e,k))
  (o:OAS a nn cc k T) (c:List.length l=nn) (p:0<=lo/\lo<=hi/\hi<=(nn:Int)) (u:aO ((l.take hi.toNat).drop lo.toNat) ix=some z)
  (h:N ((d,.pointer (some ⟨ab a,(lo+ix).toNat*k,none⟩))::L) w):dZ P n ops Q i N L w:=
 lO f b (λq g=>Fu r s hi' o c p u q g w) h
theorem Gb{ks:List (Nat×(World->Prop))}{q fuel:Nat}{S:World->Prop}{done:List Nat}{t e k:Nat}{x y:Operand}{a:Option Addr}{nn cc:Nat}{T:List Value}{l:List α}{kd:IntKind}{lo hi ix:Int}{z:α}(i d:Nat)(c:dH ops L i=some (some d,.indexAddr t x y))(g:Nat.blt d n=true)
  (f:mZ ops ks q i done=true) (b:(q,S)∈ks) (r:QP Q) (v:bS L x=some (.slice (lK a cc lo.toNat k) (hi.toNat-lo.toNat) (cc-lo.toNat))) (A:bS L y=some (.int kd ix)) (hi':nU P t=some (e,k))
  (s:OAS a nn cc k T) (p:List.length l=nn) (u:0<=lo/\lo<=hi/\hi<=(nn:Int)) (B:aO ((l.take hi.toNat).drop lo.toNat) ix=some z)
  (h:WA P n ops Q ks fuel (done++[i]) ((d,.pointer (some ⟨ab a,(lo+ix).toNat*k,none⟩))::L) w):WA P n ops Q ks (fuel+1) done L w:=
 yE i d _ _ c g f b r (λo c w' _=>Fu v A hi' s p u B o c w') h
def CX(l:List α)(lo:Int)(z0:α):Option (List α):=if 0<=lo/\lo<l.length then some (l.take lo.toNat++List.replicate (l.length-lo.toNat) z0) else none
theorem qAi{l r:List α}{lo:Int}{z0:α}(h:CX l lo z0=some r):r.length=l.length:=by
 unfold CX at h
 split at h
 .simp only[jM] at h;subst h
  simp only[jP,kS,gX];omega
 cases h
theorem qAr{t e k:Nat}{x:Operand}{a:Option Addr}{nn cc:Nat}{T:List Value}{l r:List α}{e0:TypeId}{lo u:Int}{z:Value}{z0:α}(c:∀x,(f x).length=k)(s:∀x,∀v∈f x,v.oneCell'=true)
  (ho:dH ops L i=some (none,.call {callee:= .builtin .clear,args:= #[x],argTypes:= #[t]}))
  (g:bS L x=some (.slice (lK a cc lo.toNat k) (u.toNat-lo.toNat) (cc-lo.toNat))) (V:u=(l.length:Int)) (Z:nU P t=some (e,k)) (hz:(P.info? e).bind (·.zero)=some z) (o:z.cells.toList=f z0)
  (st:St m (bM a (aQ f l T) e0::own) w) (M:OAS a nn cc k T) (K:List.length l=nn) (d:CX l lo z0=some r)
  (h:∀w',St m (bM a (aQ f r T) e0::own) w'->N L w'):dZ P n ops Q i N L w:=by
 unfold CX at d
 split at d
 .rename_i hb
  simp only[jM] at d;subst d
  obtain⟨j,rfl⟩:∃j:Nat,lo=j:=⟨lo.toNat,by omega⟩
  have hj:j<l.length:=by omega
  have y:=M.some K hj
  subst K;subst V
  obtain⟨q1,q2,S⟩:=M
  rw[y] at S
  simp only[true_and] at S
  rw[y] at g st h
  generalize ab a=b at*
  rw[ZT (by simp only[jT];omega)] at g
  simp only[jT,gN] at g h
  have D:=nT c l
  have U:St m (.blk b (.cells (aQ f l T) e0 (0,0))::own) w:=st
  have A:(aQ f l T).size=cc*k:=by
   simp only[aQ,gQ,jP,D];omega
  obtain⟨dl,hdl⟩:∃dl,l.length-j=dl+1:=⟨l.length-j-1,by omega⟩
  rw[hdl] at g
  have p:z.cells.size=k:=by have:=kA List.length o;rw[c] at this;simpa using this
  have R:(Builtin.zeroCells z.cells (dl+1)).toList=(List.replicate (dl+1) z0).flatMap f:=by
   apply fN
   intro q
   have a0:(Builtin.zeroCells z.cells (dl+1)).toList.length=(dl+1)*k:=by rw[Array.length_toList,size_zeroCells,p]
   have E:=nT c (List.replicate (dl+1) z0)
   rw[gX] at E
   by_cases hq:q<(dl+1)*k
   .have G:0<k:=Nat.pos_of_ne_zero λY=>by(subst Y;simp at hq)
    have B:q/k<dl+1:=(Nat.div_lt_iff_lt_mul G).2 hq
    have H:=Nat.mod_lt q G
    have e:q=(q/k)*k+q%k:=by rw[Nat.mul_comm];exact(Nat.div_add_mod q k).symm
    have F:=AK c (List.replicate (dl+1) z0) (q/k) z0 (q%k) (by simp[B]) H
    rw[<-e] at F
    rw[F,<-o]
    simp[Builtin.zeroCells,p,hq,H]
   rw[List.getElem?_eq_none aa,List.getElem?_eq_none aa]
  have B:j*k+(dl+1)*k<=cc*k:=by rw[<-kN];exact kD _ aa
  refine qAj (zs:=k) (aQ f (l.take j++List.replicate (l.length-j) z0) T).toList ho g Z hz p (λv E=> ?_) U (by rw[A];exact B) ?_ ?_
  .rw[o] at E;exact s _ v E
  .rw[R,nT c,gX,SR c aa,<-kN,show j+(dl+1)=l.length by omega,SP c (jH _),hdl]
   simp[aQ,fD]
  intro w' st'
  have F:St m (.blk b (.cells (aQ f (l.take j++List.replicate (l.length-j) z0) T) e0 (0,0))::own) w':=by simpa using st'
  exact h w' F
 cases d
theorem qKx{a:Option Addr}{nn cc k:Nat}{T:List Value}{l:List α}{hi:Int}(d:OAS a nn cc k T)(e:List.length l=nn)(f:0<=(0:Int)/\0<=hi/\hi<=(nn:Int)):
  (.slice (lK a cc (Int.toNat 0) k) (hi.toNat-Int.toNat 0) (cc-Int.toNat 0):Value)= .slice a (List.length (l.take hi.toNat)) cc:=by
 have c:lK a cc (Int.toNat 0) k=a:=by
  unfold lK
  split
  .rfl
  cases a with
  |none=>rfl
  |some p=>
   have b:=d.2.2
   simp only at b
   rw[b.1]
   simp[wM]
 have b:hi.toNat-Int.toNat 0=(l.take hi.toNat).length:=by rw[kS];simp;omega
 rw[c,b]
 rfl
theorem St.freezeView{c:Codec α}{a:Option Addr}{e nn cc:Nat}{l:List α}{T:List Value}{hi:Int}(st:St m (bM a (aQ f l T) e::own) w)(n:OAS a nn cc c.sz T)(q:List.length l=nn)(d:∀x,(f x).length=c.sz)(k:∀m x,c.rep m x (f x))(r:0<=(0:Int)/\0<=hi/\hi<=(nn:Int)):
  ∃m',m.le m'/\St m' (.room a (List.length (l.take hi.toNat)) cc e c.sz::own) w/\RepS c m' a cc (l.take hi.toNat):=by
 have g:aQ f l T=aQ f (l.take hi.toNat) ((l.drop hi.toNat).flatMap f++T):=by
  simp only[aQ]
  rw[<-jW,<-fD,gW]
 rw[g] at st
 obtain⟨o,h,b⟩:=n
 refine St.freezeM (nn:=(l.take hi.toNat).length) st ⟨by rw[kS];omega,h,?_⟩ rfl d k
 cases a with
 |none=>exact b
 |some p=>
  simp only at b ⊢
  refine⟨b.1,?_⟩
  have:=nT d (l.drop hi.toNat)
  rw[jP,this,<-hQ,<-kN,kS,gD]
  have e:min hi.toNat l.length+(l.length-hi.toNat)=nn:=by omega
  rw[e];exact b.2
end
end Go.Dc
section
namespace Go.Dc
def An{α σ β ρ:Type}[DecidableEq ρ](f:Option α->σ->Option (σ⊕β))(l:List α)(s:σ)(K:β->Option ρ):Option ρ:=
 match(mG f l s).bind K with
 |none=>none
 |some b=>if((yS l).all λk=>decide ((mG f k s).bind K=some b))then some b else none
theorem Zp{α σ β ρ:Type}[DecidableEq ρ]{f:Option α->σ->Option (σ⊕β)}{l:List α}{s:σ}{K:β->Option ρ}{b:ρ}(h:An f l s K=some b):∀k,k.Perm l->(mG f k s).bind K=some b:=by
 unfold An at h
 split at h
 .cases h
 rename_i b' hb
 split at h
 .rename_i hall
  simp only[jM] at h;subst h
  intro k a
  have:=jL.1 hall k (YL a)
  simpa using this
 cases h
def LoopP{α σ β:Type}(f:Option α->σ->Option (σ⊕β))(rem:List α)(s:σ)(Pk:β->Prop)(k:Nat):Prop:=(∀l,l.Perm rem->∃b,mG f l s=some b/\Pk b)/\rem.length<k
theorem LoopP.start{α σ β ρ:Type}[DecidableEq ρ]{f:Option α->σ->Option (σ⊕β)}{l:List α}{s:σ}{K:β->Option ρ}{b:ρ}(h:An f l s K=some b):∃Pk:β->Prop,(∀o,Pk o->K o=some b)/\LoopP f l s Pk (l.length+1):=
 ⟨λo=>K o=some b,λ_ h=>h,λk d=>by obtain⟨o,a,c⟩:=jV.1 (Zp h k d);exact⟨o,a,c⟩,Nat.lt_succ_self _⟩
theorem LoopP.zero{α σ β:Type}{f:Option α->σ->Option (σ⊕β)}{rem:List α}{s:σ}{b:β->Prop}{p:Prop}(h:LoopP f rem s b 0):p:=absurd h.2 (jO _)
theorem LoopP.nil{α σ β:Type}{f:Option α->σ->Option (σ⊕β)}{rem:List α}{s:σ}{b:β->Prop}{k:Nat}(h:LoopP f rem s b (k+1))(g:rem=[]):
  ∃c,f none s=some c/\(∀s',c= .inl s'->LoopP f rem s' b k)/\(∀b',c= .inr b'->b b'):=by
 subst g
 obtain⟨o,this,e⟩:=h.1 [] (.refl _)
 simp only[mG] at this
 obtain⟨c,d,a⟩:=jV.1 this
 refine⟨c,d,?_,?_⟩
 .rintro s' rfl;simp at a
 rintro b' rfl
 simp only[jM] at a
 subst a;exact e
theorem LoopP.cons{α σ β:Type}{f:Option α->σ->Option (σ⊕β)}{rem rest:List α}{e:α}{s:σ}{b:β->Prop}{k:Nat}(h:LoopP f rem s b (k+1))(q:rem.Perm (e::rest)):
  ∃c,f (some e) s=some c/\(∀s',c= .inl s'->LoopP f rest s' b k)/\(∀b',c= .inr b'->b b'):=by
 have t:rem.length=rest.length+1:=by simpa using q.length_eq
 have key:∀l,l.Perm rest->∃o,mG f (e::l) s=some o/\b o:=λl a=>h.1 _ ((a.cons e).trans q.symm)
 obtain⟨o,d,u⟩:=key rest (.refl _)
 simp only[mG] at d
 obtain⟨c,g,n⟩:=jV.1 d
 refine⟨c,g,?_,?_⟩
 .rintro s' rfl
  refine⟨λl a=> ?_,by have:=h.2;omega⟩
  obtain⟨o2,p,r⟩:=key l a
  simp only[mG,g,j0] at p
  exact⟨o2,p,r⟩
 rintro b' rfl
 simp only[jM] at n
 subst n;exact u
end Go.Dc
end
namespace Go.Dc
section
open Go.Proofs Go.Shelf Go.Sort
theorem qEh{w w':World}{m':Mem}{own:List Piece}(a:Mem.le (vH w) m')(st:St m' own w'):∃q os,w'=grow (w.drewN q) os:=by
 have e:=st.1.2.2
 have k:m'.wd=w:=a.2.2.symm
 rw[k] at e
 obtain⟨⟨n,o⟩,p,c⟩:=e
 have c:=c rfl
 have d:∀(b:Nat) (x:Obj),w.heap[b]? =some x->w'.heap[b]? =some x:=λb x g=>st.1.2.1 b x (a.2.1 b x g)
 refine⟨w'.drawn-w.drawn,w'.heap.extract w.heap.size w'.heap.size,?_⟩
 have l:w.heap.size<=w'.heap.size:=by
  rcases Nat.eq_zero_or_pos w.heap.size with h|h
  .omega
  have:=d (w.heap.size-1) _ (Array.getElem?_eq_getElem (show w.heap.size-1<w.heap.size by omega))
  grind
 have f:w.heap++w'.heap.extract w.heap.size w'.heap.size=w'.heap:=by
  apply Array.ext
  .simp;omega
  intro i r s
  rw[Array.getElem_append]
  split
  .rename_i h7
   have:=d i _ (Array.getElem?_eq_getElem h7)
   grind
  grind
 have r:w.drawn+(w'.drawn-w.drawn)=w'.drawn:=by omega
 cases w'
 grind [Go.Sort.grow,Go.World.drewN]
theorem Ir{α:Type}[Inhabited α]{f:α->List Value}{k:Nat}(a:∀x,(f x).length=k)(l:List α)(t:Nat)(b:t<l.length*k):(l.flatMap f)[t]? =some (flatK f k l.toArray)[t]! :=by
 grind [Nat.div_lt_iff_lt_mul,Nat.mod_lt,Nat.mul_comm,Nat.div_add_mod,AK,Go.Sort.get_flatK]
variable {P:Program} {ρ:Ren} {α:Type} [Inhabited α] {m:Mem} {own:List Piece} {w:World}
theorem Zx(L:SlLaysF0.n6 P ρ){k:Nat}{f:α->List Value}(aE:∀w,(isAgg (ρ.t 24)).run P w= .ok true w)(zE:∀w,(Go.sizeOf (ρ.t 24)).run P w= .ok k w)(d:∀x,(f x).length=k)(E:∀x,∀v∈f x,v.oneCell'=true)
  (cf:α->α->Int) (G:SWO (ltOf cf)) (H:∀x y,(ltOf cf) x y=false->(ltOf cf) y x=false->x=y) (g:Nat) (eg:∀args w,(callFunc g args).run P w= .ok (.enter g args) w)
  (A:∀(x y:α) (W:World),Calls P g #[.agg (f x).toArray,.agg (f y).toArray] W λr w'=>∃m',r= .returned (.int .i64 (cf x y))/\(vH W).le m'/\St m' [] w')
  {a:Option Addr} {l:List α} {cap:Nat} {T:List Value} {e:TypeId} (st:St m (bM a (aQ f l T) e::own) w) (R:OAS a l.length cap k T) (q:l.length<4611686018427387904):
  Calls P (ρ.f 6) #[.slice a l.length cap,.func (.func g) #[] #[]] w λr w'=>r= .returned (.tuple #[])/\St m (bM a (aQ f (l.mergeSort λx y=> !(ltOf cf) y x) T) e::own) w':=by
 obtain⟨Y,Z,u⟩:=R
 cases a with
 |none=>
  simp only at u
  have c:l=[]:=kF aa
  subst c
  refine(AnyF.slices_SortFunc_none {L with} none cap (.func (.func g) #[] #[]) w).mono λr w' h=> ?_
  simp_all
 |some p=>
  simp only at u
  obtain⟨D,hT'⟩:=u
  obtain⟨b,o,s⟩:=p
  simp only[Addr.mk.injEq,true_and] at D
  obtain⟨rfl,rfl⟩:=D
  have c:St m (.blk b (.cells (aQ f l T) e (0,0))::own) w:=st
  have K:=c.head.1
  have B:=tP K
  have S:=nT d l
  have F:HoldsK f k w b 0 l.toArray:=by
   intro j M
   grind [aQ,Go.Sort.flatK,Ir,Go.World.cell?,Go.World.frozen?]
  refine(AnyQ.slices_SortFunc_total L k aE zE f d E cf G g #[] b 0 cap l.toArray w eg (λm' os dk _ x y=> ?_) F B (by simpa using q) H).mono λr w' h=> ?_
  .refine(A x y _).mono λr w' h=> ?_
   grind [qEh]
  obtain⟨rfl,n,os,rfl⟩:=h
  refine⟨rfl,?_⟩
  generalize hl':l.mergeSort (λx y=> !(ltOf cf) y x)=l'
  have U:l'.length=l.length:=by rw[<-hl'];simp
  have hfl':=nT d l'
  have z:putCells id 0 (flatK f k l'.toArray) (aQ f l T)=aQ f l' T:=by
   apply Array.ext_getElem?
   grind [Go.Sort.putCells,aQ,Go.Sort.size_flatK,Ir]
  refine(c.set (w':=sortWorldK f k w b 0 n l'.toArray os) (o':= .cells (aQ f l' T) e (0,0)) ⟨⟨rfl,rfl⟩,rfl,?_⟩ ?_ ?_:St m (.blk b (.cells (aQ f l' T) e (0,0))::own) _)
  .intro _;show w.drawn<=w.drawn+n;omega
  .show((w.heap.modify b (onCells (putCells id 0 (flatK f k l'.toArray))))++os)[b]? =_
   grind [Go.Sort.onCells]
  intro j M V
  show((w.heap.modify b (onCells (putCells id 0 (flatK f k l'.toArray))))++os)[j]? =_
  grind
end
section
open Go.Proofs Go.Shelf Go.Sort
structure Lin{α:Type}(c:α->α->Int):Prop where
 zero:∀x y,c x y=0↔x=y
 anti:∀x y,c x y<0↔0<c y x
 trans:∀x y z,c x y<0->c y z<0->c x z<0
theorem Lin.swo{α:Type}{c:α->α->Int}(h:Lin c):SWO (ltOf c) where
 irrefl x:=by simp only[ltOf,decide_eq_false_iff_not];have:=(h.zero x x).2 rfl;omega
 trans x y z h1 h2:=by simp only[ltOf,jR] at*;exact h.trans x y z h1 h2
 ntrans x y z h1 h2:=by
  simp only[ltOf,decide_eq_false_iff_not] at*
  intro a
  have g:=h.anti x y;have b:=h.anti y x;have k:=h.anti y z;have d:=h.anti z y
  by_cases e1:c x y=0
  .rw[(h.zero x y).1 e1] at a;exact h2 a
  by_cases e2:c y z=0
  .rw[<-(h.zero y z).1 e2] at a;exact h1 a
  have e:c y x<0:=b.2 aa
  have f:c z y<0:=d.2 aa
  have l:=h.trans z y x f e
  have:=(h.anti x z).1 a
  omega
theorem Lin.total{α:Type}{c:α->α->Int}(h:Lin c)(x y:α)(a:ltOf c x y=false)(b:ltOf c y x=false):x=y:=by
 simp only[ltOf,decide_eq_false_iff_not] at*
 have:=h.anti y x
 exact(h.zero x y).1 aa
def sK(x y:Int):Int:=if x<y then-1 else if x>y then 1 else 0
theorem cmpI_lin:Lin sK where
 zero x y:=by unfold sK;split<;>(try split)<;>omega
 anti x y:=by unfold sK;repeat' split<;>omega
 trans x y z:=by unfold sK;repeat' split<;>omega
def qQ{α β:Type}(c:α->α->Int)(d:β->β->Int)(x y:α×β):Int:=if c x.1 y.1≠0 then c x.1 y.1 else d x.2 y.2
theorem GY{α β:Type}{c:α->α->Int}{d:β->β->Int}(a:Lin c)(l:Lin d):Lin (qQ c d) where
 zero x y:=by
  have b:=a.zero x.1 y.1;have f:=l.zero x.2 y.2
  unfold qQ
  split
  .rename_i h;exact⟨λg=>absurd g h,λg=>absurd (b.2 (by rw[g])) h⟩
  rename_i h
  have h:=b.1 (Decidable.of_not_not h)
  rw[f];exact⟨λg=>Prod.ext h g,λg=>by rw[g]⟩
 anti x y:=by
  have b:=a.anti x.1 y.1;have f:=l.anti x.2 y.2;have k:=a.zero x.1 y.1;have n:=a.zero y.1 x.1
  unfold qQ
  by_cases e:x.1=y.1
  .rw[jA (by rw[ne_eq,Decidable.not_not,k];exact e),jA (by rw[ne_eq,Decidable.not_not,n];exact e.symm)];exact f
  rw[jB (λg=>e (k.1 g)),jB (λg=>e (n.1 g).symm)];exact b
 trans x y z g1 g2:=by
  have b:=a.zero x.1 y.1;have f:=a.zero y.1 z.1;have k:=a.zero x.1 z.1
  unfold qQ at*
  by_cases e1:x.1=y.1
  .rw[jA (by rw[ne_eq,Decidable.not_not,b];exact e1)] at g1
   by_cases e2:y.1=z.1
   .rw[jA (by rw[ne_eq,Decidable.not_not,f];exact e2)] at g2
    rw[jA (by rw[ne_eq,Decidable.not_not,k];exact e1.trans e2)]
    exact l.trans _ _ _ g1 g2
   rw[jB (λg=>e2 (f.1 g))] at g2
   rw[jB (λg=>e2 (e1.symm.trans (k.1 g))),e1];exact g2
  rw[jB (λg=>e1 (b.1 g))] at g1
  by_cases e2:y.1=z.1
  .rw[jB (λg=>e1 ((k.1 g).trans e2.symm)),<-e2];exact g1
  rw[jB (λg=>e2 (f.1 g))] at g2
  have n:=a.trans _ _ _ g1 g2
  rw[jB aa];exact n
def oS:List UInt8->List UInt8->Int
 |[],[]=>0
 |[],_::_=> -1
 |_::_,[]=>1
 |x::l,y::k=>if x=y then oS l k else if x<y then-1 else 1
theorem Rl(x y:UInt8):x<y↔x.toNat<y.toNat:=Iff.rfl
theorem qLl{x y:UInt8}(h:x.toNat=y.toNat):x=y:=UInt8.toNat_inj.1 h
theorem cmpL_lin:Lin oS where
 zero:=by
  intro l
  induction l with
  |nil=>intro k;cases k<;>simp[oS]
  |cons x l c=>
   intro k
   cases k with
   |nil=>simp[oS]
   |cons y k=>
    simp only[oS]
    by_cases h:x=y
    .rw[jB h,c k,h];simp
    rw[jA h];split<;>simp[h]
 anti:=by
  intro l
  induction l with
  |nil=>intro k;cases k<;>simp[oS]
  |cons x l c=>
   intro k
   cases k with
   |nil=>simp[oS]
   |cons y k=>
    simp only[oS]
    by_cases h:x=y
    .rw[jB h,jB h.symm];exact c k
    rw[jA h,jA (Ne.symm h)]
    have:¬x.toNat=y.toNat:=λe=>h (qLl e)
    simp only[Rl]
    split<;>split<;>omega
 trans:=by
  intro l
  induction l with
  |nil=>intro k m b a;cases k<;>cases m<;>simp[oS] at*
  |cons x l c=>
   intro k m b a
   cases k with
   |nil=>simp[oS] at b
   |cons y k=>
    cases m with
    |nil=>simp[oS] at a
    |cons z m=>
     simp only[oS,Rl] at*
     by_cases e1:x=y
     .subst e1
      rw[jB rfl] at b
      by_cases e2:x=z
      .rw[jB e2] at a ⊢;exact c k m b a
      rw[jA e2] at a ⊢;exact a
     rw[jA e1] at b
     have d:x.toNat<y.toNat:=by
      by_cases g:x.toNat<y.toNat
      .exact g
      rw[jA g] at b;omega
     by_cases e2:y=z
     .subst e2;rw[jA e1,jB d];omega
     rw[jA e2] at a
     have f:y.toNat<z.toNat:=by
      by_cases g:y.toNat<z.toNat
      .exact g
      rw[jA g] at a;omega
     rw[jA (λe=>by rw[e] at d;omega),jB aa];omega
def IC(l k:List UInt8):Int:=match(List.range (min l.length k.length)).find? λi=>l.getD i 0 !=k.getD i 0 with
 |some i=>if l.getD i 0<k.getD i 0 then-1 else 1
 |none=>if l.length<k.length then-1 else if l.length>k.length then 1 else 0
theorem Pu:∀l k:List UInt8,IC l k=oS l k
 |[],[]=>by simp[IC,oS]
 |[],_::_=>by simp[IC,oS]
 |_::_,[]=>by simp[IC,oS]
 |x::l,y::k=>by
  have a:=Pu l k
  unfold IC at a ⊢
  rw[show min (x::l).length (y::k).length=min l.length k.length+1 by simp only[jS];omega,List.range_succ_eq_map,List.find?_cons]
  by_cases h:x=y
  .subst h
   have e0:((x::l).getD 0 0 !=(x::k).getD 0 0)=false:=by simp
   rw[e0]
   simp only[List.find?_map,Function.comp_def,oS,jJ]
   rw[<-a]
   have b:(λi=>(x::l).getD (Nat.succ i) 0 !=(x::k).getD (Nat.succ i) 0)=λi=>l.getD i 0 !=k.getD i 0:=by
    funext i;simp
   rw[b]
   cases(List.range (min l.length k.length)).find? λi=>l.getD i 0 !=k.getD i 0 with
   |none=>simp
   |some i=>simp
  have e0:((x::l).getD 0 0 !=(y::k).getD 0 0)=true:=by simpa using h
  rw[e0]
  simp[oS,h]
theorem qFu(a:BA)(i:Nat):a[i]! =a.data.toList.getD i 0:=by
 by_cases h:i<a.size
 .have b:i<a.data.toList.length:=by simpa using h
  rw[getElem!_pos a i h,gH,List.getElem?_eq_getElem b]
  simp
  rfl
 have b:¬i<a.data.toList.length:=by simpa using h
 rw[getElem!_neg a i h,gH,List.getElem?_eq_none aa]
 rfl
theorem NP(a b:BA):pM a b=oS a.data.toList b.data.toList:=by
 rw[<-Pu]
 have c:a.data.toList.length=a.size:=by simp
 have d:b.data.toList.length=b.size:=by simp
 unfold pM IC
 rw[c,d]
 simp only[qFu]
 all_goals (generalize List.find? (λi=>a.data.toList.getD i 0 !=b.data.toList.getD i 0) (List.range (min a.size b.size))=o;cases o<;>rfl)
theorem cmpS_lin:Lin pM where
 zero x y:=by
  rw[NP,cmpL_lin.zero]
  exact⟨λh=>by cases x;cases y;simp at h;subst h;rfl,λh=>by rw[h]⟩
 anti x y:=by rw[NP,NP];exact cmpL_lin.anti _ _
 trans x y z h1 h2:=by rw[NP] at*;exact cmpL_lin.trans _ _ _ h1 h2
end
section
def isQ{α:Type}(o:Option α):Option Unit:=o.map λ_=>()
theorem MapQ.at{κ ν:Type}{ek:κ->Value}{c:Codec ν}{agg:Bool}{m:Mem}{q:Option Nat}{es:Array MapEntry}{ck:Nat}{o:Option (List (κ×ν))}(h:MapQ ek c agg m q es ck o){u:Unit}(a:isQ o=some u):∃b,q=some b:=by
 cases q with
 |none=>
  have h:o=none:=h
  subst h
  cases a
 |some b=>exact⟨b,rfl⟩
section
variable {P:Program} {n:Fr} {ops:Array Oper} {Q:Exit->Act->World->Prop} {L:bO} {w:World} {i:Nat}
def noP(Q:Exit->Act->World->Prop):Exit->Act->World->Prop
 | .panic _,_,_=>False
 |e,a,w=>Q e a w
end
theorem tO{σ β:Type}{f:σ->Option (σ⊕β)}(st:Nat->σ)(k:Nat)(res:β)(step:∀i,i<k->f (st i)=some (.inl (st (i+1))))(stop:f (st k)=some (.inr res)){N:Nat}(b:k<N):aA f N (st 0)=some res:=by
 have key:∀d i M,i+d=k->d<M->aA f M (st i)=some res:=by
  intro d
  induction d with
  |zero=>intro i M h a;obtain⟨M',rfl⟩:∃M',M=M'+1:=⟨M-1,by omega⟩;simp only[fB] at h;subst h;simp[aA,stop]
  |succ d c=>
   intro i M h a
   obtain⟨M',rfl⟩:∃M',M=M'+1:=⟨M-1,by omega⟩
   have:=c (i+1) M' aa aa
   simp[aA,step i aa,this]
 exact key k 0 N aa b
section
variable {ν:Type}
theorem Zz{l:List (Int×ν)}{k c:Int}{v:ν}(h:c≠k):dX (l.map λp=>if k=p.1 then(k,v) else p) c=dX l c:=by
 induction l with
 |nil=>rfl
 |cons p l a=>
  simp only[kO,dX]
  by_cases hk:k=p.1
  .subst hk;rw[jB rfl,jA h,jA h,a]
  rw[jA hk,a]
theorem qAd{l:List (Int×ν)}{k:Int}{v:ν}(h:(dX l k).isSome=true):dX (l.map λp=>if k=p.1 then(k,v) else p) k=some v:=by
 induction l with
 |nil=>cases h
 |cons p l a=>
  simp only[kO,dX] at h ⊢
  by_cases hk:k=p.1
  .subst hk;simp
  rw[jA hk] at h ⊢
  rw[jA hk]
  exact a h
theorem qCo{l:List (Int×ν)}{k:Int}{v:ν}(h:dX l k=none)(c:Int):dX (mins l k v) c=if c=k then some v else dX l c:=by
 induction l with
 |nil=>rfl
 |cons p l a=>
  simp only[dX] at h
  split at h
  .cases h
  rename_i hk
  simp only[mins]
  split
  .simp only[dX]
  simp only[dX,a h]
  by_cases hc:c=k
  .subst hc;simp[hk]
  simp[hc]
theorem qCr(l:List (Int×ν))(k:Int)(v:ν)(c:Int):dX (mset l k v) c=if c=k then some v else dX l c:=by
 unfold mset
 split
 .rename_i h
  split
  .rename_i hc;subst hc;exact qAd h
  rename_i hc;exact Zz hc
 rename_i h
 exact qCo (by simpa using h) c
def Srt(l:List (Int×ν)):Prop:=(l.map (·.1)).Pairwise (· < ·)
theorem Srt.nil:Srt ([]:List (Int×ν)):=List.Pairwise.nil
theorem Srt.mins{l:List (Int×ν)}{k:Int}{v:ν}(d:Srt l)(h:dX l k=none):Srt (mins l k v):=by
 induction l with
 |nil=>simp[Srt,Go.Dc.mins]
 |cons p l f=>
  have hs':=d
  simp only[Srt,kO,jF] at d
  simp only[dX] at h
  split at h
  .cases h
  rename_i hk
  simp only[Go.Dc.mins]
  split
  .rename_i b
   have b:k<p.1:=by simpa[KOrd.lt] using b
   refine jF.2 ⟨λa c=> ?_,hs'⟩
   simp only[kO,jG] at c
   rcases c with rfl|c
   .exact b
   exact Int.lt_trans b (d.1 a c)
  rename_i b
  have b:¬k<p.1:=by simpa[KOrd.lt] using b
  refine jF.2 ⟨λa c=> ?_,f d.2 h⟩
  obtain⟨q,e,rfl⟩:=gF.1 c
  rcases jG.1 ((Kn l k v).mem_iff.1 e) with rfl|e
  .show p.1<k;omega
  exact d.1 _ (gE e)
theorem Srt.mset{l:List (Int×ν)}(a:Srt l)(k:Int)(v:ν):Srt (mset l k v):=by
 unfold Go.Dc.mset
 split
 .unfold Srt
  have:(l.map λp=>if k=p.1 then(k,v) else p).map (·.1)=l.map (·.1):=by
   rw[List.map_map]
   refine List.map_congr_left λp _=> ?_
   simp only[Function.comp_apply]
   split
   .rename_i h;exact h
   rfl
  rw[this];exact a
 rename_i h
 exact a.mins (by simpa using h)
theorem Srt.out{l:List (Int×ν)}{c:Int}(h:∀a∈l.map (·.1),c<a):dX l c=none:=by
 rw[YA];intro b;exact Int.lt_irrefl _ (h c b)
theorem Srt.ext:∀{l k:List (Int×ν)},Srt l->Srt k->(∀c,dX l c=dX k c)->l=k
 |[],[],_,_,_=>rfl
 |[],q::k,_,_,h=>by have:=h q.1;simp[dX] at this
 |p::l,[],_,_,h=>by have:=h p.1;simp[dX] at this
 |p::l,q::k,n,g,h=>by
  have hl':(∀a∈l.map (·.1),p.1<a)/\Srt l:=jF.1 n
  have hk':(∀a∈k.map (·.1),q.1<a)/\Srt k:=jF.1 g
  have e:p.1=q.1:=by
   rcases Int.lt_trichotomy p.1 q.1 with d|f|d
   .have:=h p.1
    rw[Srt.out (l:=q::k) (c:=p.1)] at this
    .simp[dX] at this
    intro a b
    rcases jG.1 b with rfl|b
    .exact d
    exact Int.lt_trans d (hk'.1 a b)
   .exact f
   have:=h q.1
   rw[Srt.out (l:=p::l) (c:=q.1)] at this
   .simp[dX] at this
   intro a b
   rcases jG.1 b with rfl|b
   .exact d
   exact Int.lt_trans d (hl'.1 a b)
  have d:p.2=q.2:=by have:=h p.1;simpa[dX,e] using this
  have f:l=k:=by
   refine Srt.ext hl'.2 hk'.2 λc=> ?_
   by_cases hc:c=p.1
   .rw[Srt.out (l:=l) (λa b=>hc▸hl'.1 a b),Srt.out (l:=k) (λa b=>by rw[hc,e];exact hk'.1 a b)]
   have:=h c
   simpa[dX,hc,e▸hc] using this
  rw[f,Prod.ext e d]
def sE(v:ν)(m:List (Int×ν))(xs:List UInt8):List (Int×ν):=xs.foldl (λm x=>mset m (x.toNat:Int) v) m
theorem Io{v:ν}:∀{xs:List UInt8} {m:List (Int×ν)},Srt m->Srt (sE v m xs)
 |[],_,h=>h
 |_::xs,_,h=>Io (xs:=xs) (h.mset _ _)
theorem Hm{v:ν}(c:Int):∀(xs:List UInt8) (m:List (Int×ν)),dX (sE v m xs) c=if xs.any (λx=>decide ((x.toNat:Int)=c))then some v else dX m c
 |[],m=>by simp[sE]
 |x::xs,m=>by
  have:=Hm (v:=v) c xs (mset m (x.toNat:Int) v)
  rw[show sE v m (x::xs)=sE v (mset m (x.toNat:Int) v) xs from rfl,this,qCr]
  by_cases h1:xs.any (λx=>decide ((x.toNat:Int)=c))=true
  .simp[h1]
  by_cases h2:(x.toNat:Int)=c
  .subst h2;simp[h1]
  have a:¬c=(x.toNat:Int):=λe=>h2 e.symm
  simp[h1,h2,a]
end
theorem Mem.le.t{a b c:Mem}(h:a.le b)(k:b.le c):a.le c:=Mem.le_trans h k
theorem sI{α:Type}{a b:α}(h:some a=some b):a=b:=jX h
abbrev GoOn(K:Value->Prop):Ending->Prop
 | .returned v=>K v
 |_=>False
abbrev GoOnF(K:Value->Prop)(F:List PanicEntry->Prop):Ending->Prop
 | .returned v=>K v
 | .panicked ch=>F ch
 |_=>False
theorem GoOn.out{K:Value->Prop}{e:Ending}(h:GoOn K e):∃v,e= .returned v/\K v:=by
 grind
theorem GoOnF.out{K:Value->Prop}{F:List PanicEntry->Prop}{e:Ending}(h:GoOnF K F e):(∃v,e= .returned v/\K v)\/∃ch,e= .panicked ch/\F ch:=by
 grind
section
variable {ρ:Option Nat} {P:Program} {n:Fr} {ops:Array Oper} {Q:Exit->Act->World->Prop} {i:Nat} {L:bO} {w:World} {m:Mem} {own:List Piece} {N:bO->World->Prop}
theorem qIf{α β:Type}{f:Nat}{args:Array Value}{x:Option β}{k:β->Option α}{r:α}{T:β->Ending->World->Prop}(d:Nat)(o:x.bind k=some r)(c:∀y,x=some y->Calls P f args w (T y))
  (h:∀y,k y=some r->∀e w',T y e w'->GoOn (λv=>N ((d,v)::L) w') e) (l:sY P ops L i=some (some d,f,args):=by kernel_rfl) (g:Nat.blt d n=true:=by exact rfl):dZ P n ops Q i N L w:=by
 obtain⟨y,a,b⟩:=jV.1 o
 exact nE d f args l g ((c y a).mono λe w' p=>(h y b e w' p).out)
theorem qHc{α β:Type}{f:Nat}{args:Array Value}{x:Option β}{k:β->Option α}{r:α}{T:β->Ending->World->Prop}(d:Nat)(o:x.bind k=some r)(c:∀y,x=some y->Calls P f args w (T y))
  (h:∀y,k y=some r->∀e w',T y e w'->∃v,e= .returned v/\N ((d,v)::L) w') (l:sY P ops L i=some (some d,f,args):=by kernel_rfl) (g:Nat.blt d n=true:=by exact rfl):dZ P n ops Q i N L w:=by
 obtain⟨y,a,b⟩:=jV.1 o
 exact nE d f args l g ((c y a).mono λe w' p=>h y b e w' p)
theorem qIt{α β:Type}{f:Nat}{args:Array Value}{x:Option β}{k:β->Option α}{r:α}{T:β->Ending->World->Prop}(d:Nat)(g:x.bind k=some r)(a:∀y,x=some y->Calls P f args w (T y))
  (h:∀y,k y=some r->∀e w',T y e w'->GoOn (λv=>WO P n ops Q (i+1) ((d,v)::L) w') e) (c:sY P ops L i=some (some d,f,args):=by kernel_rfl) (b:Nat.blt d n=true:=by exact rfl) (hi:Nat.blt i ops.size=true:=by exact rfl):WO P n ops Q i L w:=
 tT hi (qIf d g a h c b)
def CT:List Value->Nat->bO
 |[],_=>[]
 |v::l,k=>(k,v)::CT l (k+1)
theorem Lj:∀(l:List Value) (k:Nat) (pre:List Value),pre.length=k->(CT l k).map (λp=>((pre++l).toArray[p.1]?))=(CT l k).map λp=>some p.2
 |[],_,_,_=>rfl
 |v::l,k,pre,h=>by
  simp only[CT,kO]
  have a:=Lj l (k+1) (pre++[v]) (by simp[h])
  grind
theorem nQ{f:FuncId}{fn:Func}{c:Code}{args:Array Value}{R:Ending->World->Prop}{k:Nat}(d:P.funcs[f]? =some fn)(b:fn.body=some c)(e:fn.ntmps=k)(h:W none P ⟨k,[]⟩ c (bodyPost P fn R) (CT args.toList 0) w)
  (a:Nat.ble args.size k=true:=by exact rfl):Calls P f args w R:=
 qHu d b e (CT args.toList 0) (by have:=Lj args.toList 0 [] rfl;simpa using this) a h
theorem aM{α:Type}{c:Operand}{x y:Code}{b:Bool}{A B:Option α}{r:α}(f:(if b then A else B)=some r)
  (e:b=true->A=some r->W ρ P n x Q L w) (d:b=false->B=some r->W ρ P n y Q L w) (a:bS L c=some (.bool b):=by kernel_rfl):W ρ P n (.cond c x y) Q L w:=
 AN b a (λh=>e h (by grind)) (λh=>d h (by grind))
theorem aK{y:Code}(h:W ρ P n y Q L w)(hi:ops.size=i:=by exact rfl):WO P n ops (Exit.then (λa w=>y.wpIn (iK ρ) 0 P Q a w) Q) i L w:=Cf hi h
theorem oP{k:Nat}{fn:Func}{R:Ending->World->Prop}(ts:List Nat)(vs:List Value)(h:R (.returned (sA vs)) w)(a:fn.results=(ts.map ResultVar.tmp).toArray:=by exact rfl)(b:ts.map (look L)=vs.map some:=by kernel_rfl):X ⟨k,[]⟩ (bodyPost P fn R) .ret L w:=by
 refine qI (ts.map .tmp) vs a ?_ h
 clear a h
 induction ts generalizing vs with
 |nil=>cases vs with
  |nil=>rfl
  |cons v vs=>cases b
 |cons t ts c=>cases vs with
  |nil=>cases b
  |cons v vs=>
   grind [ResAll.cons,ResAt.tmp]
instance opTmp(k:Nat):OfNat Operand k:=⟨.tmp k⟩
theorem qH{e:TypeId}{b:Nat}{c:Array Value}(t:Nat)(x y:Operand)(o:Nat)(v:Value)(c':Array Value)(d:St m (.blk b (.cells c e (0,0))::own) w)(h:∀w',St m (.blk b (.cells c' e (0,0))::own) w'->N L w')
 (f:dH ops L i=some (none,.store t x y):=by kernel_rfl) (g:bS L x=some (.pointer (some ⟨b,o,none⟩)):=by kernel_rfl) (k:bS L y=some v:=by kernel_rfl) (a:AM P t v o c.size=true:=by kernel_rfl)
 (hc':(c.toList.take o++v.cells.toList++c.toList.drop (o+v.cells.toList.length)).toArray=c':=by kernel_rfl):dZ P n ops Q i N L w:=ZI f g k d a hc' h
theorem dC{e:TypeId}{b:Nat}{c:Array Value}(t:Nat)(x y:Operand)(v:Value)(d:St m (.blk b (.cells c e (0,0))::own) w)(h:∀w',St m (.blk b (.cells v.cells e (0,0))::own) w'->N L w')
 (f:dH ops L i=some (none,.store t x y):=by kernel_rfl) (g:bS L x=some (.pointer (some ⟨b,0,none⟩)):=by kernel_rfl) (k:bS L y=some v:=by kernel_rfl) (a:AM P t v 0 c.size=true:=by kernel_rfl)
 (hc':(c.toList.take 0++v.cells.toList++c.toList.drop (0+v.cells.toList.length)).toArray=v.cells:=by kernel_rfl):dZ P n ops Q i N L w:=ZI f g k d a hc' h
theorem eC(d e:Nat)(v:Value)(a:St m own w)(h:∀b w',St m (.blk b (.cells v.cells e (0,0))::own) w'->N ((d,.pointer (some ⟨b,0,none⟩))::L) w')
 (f:dH ops L i=some (some d,.alloc e):=by kernel_rfl) (c:Nat.blt d n=true:=by exact rfl) (g:Bs P e=some v:=by kernel_rfl):dZ P n ops Q i N L w:=Jz v f c g a h
theorem tX(d e:Nat)(x:Operand)(v:Value)(a:St m own w)(h:∀b w',St m (.blk b (.cells v.cells e (0,0))::own) w'->N ((d,.pointer (some ⟨b,0,none⟩))::L) w')
 (f:dH ops L i=some (some d,.box e x):=by kernel_rfl) (c:Nat.blt d n=true:=by exact rfl) (g:bS L x=some v:=by kernel_rfl):dZ P n ops Q i N L w:=Gl v f c g a h
theorem xE{e:Exit}{L':bO}(h:X n Q e L' w)(a:L'.map (λp=>look L p.1)=L'.map λp=>some p.2:=by kernel_rfl):X n Q e L w:=DF L' a h
theorem iA{m':Mem}{p:Prop}(st:St m' own w)(h:m.le m'):p\/Inv m w/\True:= .inr ⟨Inv.anti st.inv h,trivial⟩
theorem rZ{α β:Type}{c:Codec α}{a:Option Addr}{cap:Nat}{l k:List α}{v:Value}{f:List α->Option β}{r:β}(d t u e by_:Nat)(x y:Operand)(o:St m (.room a l.length cap e c.sz::own) w)(B:wV P u e)(g:RepS c m a cap l)(s:Gives P c m v k)(b:(dS by_ l k).bind f=some r)
  (h:∀z,f z=some r->∀a' cap' m' w',m.le m'->St m' (.room a' (List.length z) cap' e c.sz::own) w'->RepS c m' a' cap' z->N ((d,.slice a' (List.length z) cap')::L) w')
  (A:dH ops L i=some (some d,.call {callee:= .builtin .append,args:= #[x,y],argTypes:= #[t,u]}):=by kernel_rfl) (p:Nat.blt d n=true:=by exact rfl) (q:bS L x=some (.slice a l.length cap):=by kernel_rfl) (D:bS L y=some v:=by kernel_rfl)
  (hi:wG P t=some (e,c.sz,by_,c.sz):=by kernel_rfl):dZ P n ops Q i N L w:=by
 obtain⟨z,p,q⟩:=aR b;grind [qBn]
theorem qMc{α:Type}{b:Bool}{A B:Option α}{r:α}(t:Nat)(d:(if b then A else B)=some r)(e:b=true->A=some r->WO P n ops Q i ((t,.bool true)::L) w)(a:b=false->B=some r->WO P n ops Q i ((t,.bool false)::L) w)
  (c:look L t=some (.bool b):=by kernel_rfl):WO P n ops Q i L w:=by
 grind [qId]
theorem tA{m':Mem}{p x:Prop}(st:St m' own w)(h:m.le m')(k:x):((p\/Inv m w/\True)/\True)/\x:=⟨⟨iA st h,trivial⟩,k⟩
class QC(Q:Exit->Act->World->Prop):Prop where
 out:QP Q
instance qc1{K:Act->World->Prop}[h:QC Q]:QC (Exit.then K Q):=⟨aG h.out⟩
instance qc2{id:Nat}[h:QC Q]:QC (Exit.inBlock id Q):=⟨bB h.out⟩
instance qc3{fn:Func}{R:Ending->World->Prop}:QC (bodyPost P fn R):=⟨dL⟩
instance qc4[h:QC Q]:QC (qJi Q):=⟨h.out⟩
instance qc5{fn:Func}{R:Ending->World->Prop}:QC (OF P fn R):=⟨λ_ _ _ _ _ h=>h⟩
instance qc6{l:Nat}{R:Ending->World->Prop}:QC (roundPost P l R):=⟨λ_ _ _ _ _ h=>h⟩
instance qc7{l:Nat}{body:Code}{R:Ending->World->Prop}:QC (Bh P l body R):=⟨λ_ _ _ _ _ h=>h⟩
instance qc8:QC (noP Q):=⟨λ_ _ _ _ _ h=>h⟩
variable [hq:QC Q] {ks:List (Nat×(World->Prop))} {k fuel:Nat} {S:World->Prop} {done:List Nat}
theorem qMb(i d:Nat)(v:Value)(a:(k,S)∈ks)(h:WA P n ops Q ks fuel (done++[i]) ((d,v)::L) w)(c:AQ P ops L i=some (d,v):=by kernel_rfl)(b:Nat.blt d n=true:=by exact rfl)(e:mZ ops ks k i done=true:=by kernel_rfl):WA P n ops Q ks (fuel+1) done L w:=
 Pm i d v c b e a hq.out h
theorem uY{e:Nat}{b:Nat}{c:Array Value}{f:Nat×Nat}(t':Nat)(x:Operand)(i d o:Nat)(v:Value)(a:(k,S)∈ks)(g:∀w,S w->Piece.holds m w (.blk b (.cells c e f)))(h:WA P n ops Q ks fuel (done++[i]) ((d,v)::L) w)
  (p:dH ops L i=some (some d,.load t' x):=by kernel_rfl) (l:Nat.blt d n=true:=by exact rfl) (q:mZ ops ks k i done=true:=by kernel_rfl) (s:bS L x=some (.pointer (some ⟨b,o,none⟩)):=by kernel_rfl) (r:qK P t' (c.toList.drop o)=some v:=by kernel_rfl):WA P n ops Q ks (fuel+1) done L w:=
 Gu i d v p l q a hq.out g s r h
theorem qJy{α:Type}{k':BA->Option α}{r:α}{a b:BA}(t t2:Nat)(x y:Operand)(i d:Nat)(c:(k,S)∈ks)(o:(bW a b).bind k'=some r)(h:∀s,k' s=some r->WA P n ops Q ks fuel (done++[i]) ((d,.string s)::L) w)
  (l:dH ops L i=some (some d,.binOp .add t x y t2):=by kernel_rfl) (g:Nat.blt d n=true:=by exact rfl) (p:mZ ops ks k i done=true:=by kernel_rfl) (q:bS L x=some (.string a):=by kernel_rfl) (u:bS L y=some (.string b):=by kernel_rfl):WA P n ops Q ks (fuel+1) done L w:=by
 obtain⟨z,e,f⟩:=aR o;exact qIy i d l g p c hq.out q u e (h z f)
def UX(P:Program)(n:Fr)(ops:Array Oper)(ks:List (Nat×(World->Prop)))(k i:Nat)(done:List Nat)(L:bO):Option (Nat×Value):=
 bif mZ ops ks k i done then
  (match AQ P ops L i with
  |some q=>bif Nat.blt q.1 n then some q else none
  |none=>(match((ops[i]?).bind λo=>(tQ ops L o.guard).map λb=>(o.dst,b)) with
   |some (some d,false)=>bif Nat.blt d n then some (d,undef) else none
   |_=>none))
 else none
def DG(P:Program)(n:Fr)(ops:Array Oper)(ks:List (Nat×(World->Prop)))(k:Nat):List Nat->List Nat->bO->Option bO
 |[],_,_=>some []
 |i::l,done,L=>match UX P n ops ks k i done L with
  |some q=>(match DG P n ops ks k l (done++[i]) (q::L) with
   |some r=>some (q::r)
   |none=>none)
  |none=>none
def Cm(L:bO):bO->bO
 |[]=>L
 |q::r=>Cm (q::L) r
theorem qLu{i:Nat}{q:Nat×Value}(b:(k,S)∈ks)(a:UX P n ops ks k i done L=some q)(h:WA P n ops Q ks fuel (done++[i]) (q::L) w):WA P n ops Q ks (fuel+1) done L w:=by
 unfold UX at a
 cases hs:mZ ops ks k i done with
 |false=>grind
 |true=>
  rw[hs] at a
  cases hp:AQ P ops L i with
  |some z=>
   rw[hp] at a
   cases hd:Nat.blt z.1 n with
   |false=>grind
   |true=>
    simp only[hd,cond_true] at a
    cases a
    exact Pm i q.1 q.2 hp hd hs b hq.out h
  |none=>
   rw[hp] at a
   simp only[cond_true] at a
   split at a
   .rename_i d ho
    cases hd:Nat.blt d n with
    |false=>grind
    |true=>
     rw[hd] at a
     cases a
     exact qJw i d ho hd hs b hq.out h
   cases a
end
theorem qKf{m m':Mem}{own:List Piece}{w:World}{b:Nat}{o:Obj}(g:St m' own w)(a:m.le m')(c:Piece.blk b o∈own):Piece.holds m w (.blk b o):=Piece.holds_anti (g.2.1 _ c) a
theorem qJj{m m':Mem}{own:List Piece}{w:World}{a:Option Addr}{cs:Array Value}{e:TypeId}(g:St m' own w)(b:m.le m')(c:bM a cs e∈own):Piece.holds m w (bM a cs e):=qFm (g.2.1 _ c) b
end
end Go.Dc
section
abbrev Prod.d{α β γ:Type}(x:α×β×γ):γ:=x.2.2
abbrev Prod.e{α β γ δ:Type}(x:α×β×γ×δ):δ:=x.2.2.2
abbrev Prod.f{α β γ δ ε:Type}(x:α×β×γ×δ×ε):ε:=x.2.2.2.2
abbrev Prod.h{α β γ δ ε ζ:Type}(x:α×β×γ×δ×ε×ζ):ζ:=x.2.2.2.2.2
abbrev Prod.j{α β γ δ ε ζ η:Type}(x:α×β×γ×δ×ε×ζ×η):η:=x.2.2.2.2.2.2
abbrev Prod.k{α β γ δ ε ζ η θ:Type}(x:α×β×γ×δ×ε×ζ×η×θ):θ:=x.2.2.2.2.2.2.2
namespace Go.Dc
class Enc{α:Type}(c:Codec α) where
 enc:α->List Value
 ok:∀m x,c.rep m x (enc x)
instance encStr:Enc aD:=⟨λx=>[.string x],λ_ _=>rfl⟩
instance encInt{k:IntKind}:Enc (aJ k):=⟨λx=>[.int k x],λ_ _=>rfl⟩
instance encBool:Enc Sa:=⟨λx=>[.bool x],λ_ _=>rfl⟩
instance encPair{α β:Type}{a:Codec α}{b:Codec β}[A:Enc a][B:Enc b]:Enc (mU a b):=⟨λx=>A.enc x.1++B.enc x.2,λm x=>⟨_,_,rfl,A.ok m x.1,B.ok m x.2⟩⟩
def Cr{α:Type}(c:Codec α)[E:Enc c]:List α->List Value
 |[]=>[]
 |x::l=>E.enc x++Cr c l
theorem Ll{α:Type}{c:Codec α}[E:Enc c]{m:Mem}:∀l:List α,RepAll c m l (Cr c l)
 |[]=>rfl
 |x::l=>⟨_,_,rfl,E.ok m x,Ll l⟩
section
variable {ρ:Option Nat} {P:Program} {n:Fr} {ops:Array Oper} {Q:Exit->Act->World->Prop} {i:Nat} {L:bO} {w:World} {m:Mem} {own:List Piece}
def Sd(P:Program)(ops:Array Oper)(L:bO)(i:Nat):Option (Nat×Nat×TypeId×List Value):=
 match dH ops L i with
 |some (some d,.buildSlice t len parts)=>(XZ P t len (parts.map λp=>(p.1,nX L p.2)).toList).map λz=>(d,len,z)
 |_=>none
theorem eE{α:Type}(d e len:Nat)(c:Codec α)[E:Enc c](xs:List α)(k:St m own w)
  (h:∀b m' w',m.le m'->St m' (.room (some ⟨b,0,none⟩) xs.length len e c.sz::own) w'->RepS c m' (some ⟨b,0,none⟩) len xs->WO P n ops Q (i+1) ((d,.slice (some ⟨b,0,none⟩) xs.length len)::L) w')
  (a:Sd P ops L i=some (d,len,e,Cr c xs):=by kernel_rfl) (l:Nat.blt d n=true:=by exact rfl) (f:len=xs.length:=by exact rfl) (g:Nat.ble len maxLen=true:=by exact rfl) (hi:Nat.blt i ops.size=true:=by exact rfl):WO P n ops Q i L w:=by
 unfold Sd at a
 split at a
 .rename_i ha
  simp only[jK,Prod.mk.injEq] at a
  obtain⟨z,o,rfl,rfl,rfl⟩:=a
  exact tT hi (mL c _ ha l (λ_=>mS o _) f g k (Ll xs) h)
 cases a
def BF(P:Program)(ops:Array Oper)(L:bO)(i:Nat)(c:List Value):Option (Nat×Nat×Value):=
 match dH ops L i with
 |some (some d,.load t x)=>match bS L x with
  |some (.pointer (some ⟨b,o,none⟩))=>(qK P t (c.drop o)).map λv=>(d,b,v)
  |_=>none
 |_=>none
theorem qMa{e:TypeId}{b:Nat}{c:Array Value}{f:Nat×Nat}(d:Nat)(v:Value)(k:Piece.holds m w (.blk b (.cells c e f)))(h:WO P n ops Q (i+1) ((d,v)::L) w)
  (a:BF P ops L i c.toList=some (d,b,v):=by kernel_rfl) (g:Nat.blt d n=true:=by exact rfl) (hi:Nat.blt i ops.size=true:=by exact rfl):WO P n ops Q i L w:=by
 unfold BF at a
 split at a
 .rename_i ha
  split at a
  .rename_i hb
   simp only[jK,Prod.mk.injEq] at a
   obtain⟨z,l,rfl,rfl,rfl⟩:=a
   exact tT hi (Yn _ ha g hb k l h)
  cases a
 cases a
def yK(P:Program)(ops:Array Oper)(L:bO)(i:Nat)(c:List Value):Option (Nat×Nat×Nat×Value):=
 match dH ops L i with
 |some (some d,.load t x)=>match bS L x with
  |some (.pointer (some ⟨b,o,none⟩))=>(qK P t c).map λv=>(d,b,o,v)
  |_=>none
 |_=>none
theorem qLk{b o:Nat}{cs:List Value}(d:Nat)(v:Value)(c:St m own w)(f:MRow m b o cs)(h:WO P n ops Q (i+1) ((d,v)::L) w)
  (a:yK P ops L i cs=some (d,b,o,v):=by kernel_rfl) (e:Nat.blt d n=true:=by exact rfl) (hi:Nat.blt i ops.size=true:=by exact rfl):WO P n ops Q i L w:=by
 unfold yK at a
 split at a
 .rename_i ha
  split at a
  .rename_i hb
   simp only[jK,Prod.mk.injEq] at a
   obtain⟨z,g,rfl,rfl,rfl,rfl⟩:=a
   exact tT hi (CH _ ha e hb c f g h)
  cases a
 cases a
def Cl(P:Program)(ops:Array Oper)(L:bO)(i:Nat)(c:Array Value):Option (Nat×Array Value):=
 match dH ops L i with
 |some (none,.store t x y)=>match bS L x with
  |some (.pointer (some ⟨b,o,none⟩))=>match bS L y with
   |some v=>bif AM P t v o c.size then some (b,(c.toList.take o++v.cells.toList++c.toList.drop (o+v.cells.toList.length)).toArray) else none
   |none=>none
  |_=>none
 |_=>none
theorem lD{e:TypeId}{b:Nat}{c:Array Value}(c':Array Value)(d:St m (.blk b (.cells c e (0,0))::own) w)(h:∀w',St m (.blk b (.cells c' e (0,0))::own) w'->WO P n ops Q (i+1) L w')
  (a:Cl P ops L i c=some (b,c'):=by kernel_rfl) (hi:Nat.blt i ops.size=true:=by exact rfl):WO P n ops Q i L w:=by
 unfold Cl at a
 split at a
 .rename_i ha
  split at a
  .rename_i hb
   split at a
   .rename_i hv
    cases hk:AM P _ _ _ c.size with
    |true=>
     rw[hk,cond_true] at a
     simp only[jM,Prod.mk.injEq] at a
     obtain⟨rfl,f⟩:=a
     exact tT hi (ZI ha hb hv d hk f h)
    |false=>rw[hk,cond_false] at a;cases a
   cases a
  cases a
 cases a
theorem bP{e:TypeId}{b:Nat}{c:Array Value}(v:Value)(a:St m (.blk b (.cells c e (0,0))::own) w)(h:∀w',St m (.blk b (.cells v.cells e (0,0))::own) w'->WO P n ops Q (i+1) L w')
 (d:Cl P ops L i c=some (b,v.cells):=by kernel_rfl) (hi:Nat.blt i ops.size=true:=by exact rfl):WO P n ops Q i L w:=lD v.cells a h d hi
def Sg(P:Program)(ops:Array Oper)(L:bO)(i:Nat):Option (Nat×Nat×Value):=
 match dH ops L i with
 |some (some d,.alloc e)=>(Bs P e).map λv=>(d,e,v)
 |_=>none
theorem cP(d e:Nat)(v:Value)(c:St m own w)(h:∀b w',St m (.blk b (.cells v.cells e (0,0))::own) w'->WO P n ops Q (i+1) ((d,.pointer (some ⟨b,0,none⟩))::L) w')
  (a:Sg P ops L i=some (d,e,v):=by kernel_rfl) (f:Nat.blt d n=true:=by exact rfl) (hi:Nat.blt i ops.size=true:=by exact rfl):WO P n ops Q i L w:=by
 unfold Sg at a
 split at a
 .rename_i ha
  simp only[jK,Prod.mk.injEq] at a
  obtain⟨z,g,rfl,rfl,rfl⟩:=a
  exact tT hi (Jz _ ha f g c h)
 cases a
def Sh(ops:Array Oper)(L:bO)(i:Nat):Option (Nat×Nat×Value):=
 match dH ops L i with
 |some (some d,.box e x)=>(bS L x).map λv=>(d,e,v)
 |_=>none
theorem cX(d e:Nat)(v:Value)(c:St m own w)(h:∀b m' w',m.le m'->St m' own w'->MRow m' b 0 v.cells.toList->WO P n ops Q (i+1) ((d,.pointer (some ⟨b,0,none⟩))::L) w')
  (a:Sh ops L i=some (d,e,v):=by kernel_rfl) (f:Nat.blt d n=true:=by exact rfl) (hi:Nat.blt i ops.size=true:=by exact rfl):WO P n ops Q i L w:=by
 unfold Sh at a
 split at a
 .rename_i ha
  simp only[jK,Prod.mk.injEq] at a
  obtain⟨z,g,rfl,rfl,rfl⟩:=a
  exact tT hi (qHw _ ha f g c h)
 cases a
def Ss(P:Program)(ops:Array Oper)(L:bO)(i:Nat):Option (Nat×BA×Int):=
 match dH ops L i with
 |some (some d,.index t x y)=>match bS L x with
  |some (.string s)=>match bS L y with
   |some (.int .i64 z)=>match P.underlying t with
    |some .string=>some (d,s,z)
    |_=>none
   |_=>none
  |_=>none
 |_=>none
theorem lQ{α:Type}{k:UInt8->Option α}{r:α}{s:BA}{ix:Int}(d:Nat)(f:(iB s ix).bind k=some r)(h:∀z:UInt8,k z=some r->WO P n ops Q (i+1) ((d,.int .u8 (z.toNat:Int))::L) w)
  (a:Ss P ops L i=some (d,s,ix):=by kernel_rfl) (e:Nat.blt d n=true:=by exact rfl) (hi:Nat.blt i ops.size=true:=by exact rfl):WO P n ops Q i L w:=by
 obtain⟨z,b,c⟩:=aR f
 unfold Ss at a
 split at a
 .rename_i ha
  split at a
  .rename_i hb
   split at a
   .rename_i hc
    split at a
    .rename_i hu
     cases a
     exact tT hi (Yr (k:= .i64) ha e hb hc hu b (h z c))
    cases a
   cases a
  cases a
 cases a
def VJ(ops:Array Oper)(L:bO)(i:Nat):Option (Nat×BA×BA):=
 match dH ops L i with
 |some (some d,.binOp .add _ x y _)=>match bS L x with
  |some (.string s)=>match bS L y with
   |some (.string z)=>some (d,s,z)
   |_=>none
  |_=>none
 |_=>none
theorem qKw{α:Type}{k:BA->Option α}{r:α}{a b:BA}(d:Nat)(l:(bW a b).bind k=some r)(h:∀s,k s=some r->WO P n ops Q (i+1) ((d,.string s)::L) w)
  (c:VJ ops L i=some (d,a,b):=by kernel_rfl) (g:Nat.blt d n=true:=by exact rfl) (hi:Nat.blt i ops.size=true:=by exact rfl):WO P n ops Q i L w:=by
 obtain⟨z,e,f⟩:=aR l
 unfold VJ at c
 split at c
 .rename_i ha
  split at c
  .rename_i hb
   split at c
   .rename_i hc
    cases c
    exact tT hi (qGo ha g hb hc e (h z f))
   cases c
  cases c
 cases c
def VK(P:Program)(ops:Array Oper)(L:bO)(i:Nat):Option (Nat×Value×Int×Nat):=
 match dH ops L i with
 |some (some d,.indexAddr t x y)=>match bS L x with
  |some v=>match bS L y with
   |some (.int .i64 z)=>(nU P t).map λq=>(d,v,z,q.2)
   |_=>none
  |_=>none
 |_=>none
theorem qLr{α β:Type}{c:Codec α}{a:Option Addr}{cap:Nat}{l:List α}{ix:Int}{k:α->Option β}{r:β}(d:Nat)(g:RepS c m a cap l)(x:(aO l ix).bind k=some r)
  (h:∀z,k z=some r->∀b o cs,c.rep m z cs->MRow m b o cs->WO P n ops Q (i+1) ((d,.pointer (some ⟨b,o,none⟩))::L) w)
  (f:VK P ops L i=some (d,.slice a l.length cap,ix,c.sz):=by kernel_rfl) (u:Nat.blt d n=true:=by exact rfl) (hi:Nat.blt i ops.size=true:=by exact rfl):WO P n ops Q i L w:=by
 obtain⟨z,q,t⟩:=aR x
 unfold VK at f
 split at f
 .rename_i ha
  split at f
  .rename_i hb
   split at f
   .rename_i hc
    simp only[jK,Prod.mk.injEq] at f
    obtain⟨⟨e,s⟩,v,rfl,rfl,rfl,p⟩:=f
    simp only at p
    subst p
    exact tT hi (qCu (k:= .i64) c ha u hb hc v g q (h z t))
   cases f
  cases f
 cases f
theorem lA{α β:Type}{c:Codec α}{a:Option Addr}{cap:Nat}{l k:List α}{v:Value}{f:List α->Option β}{r:β}(d t u e by_:Nat)(x y:Operand)(g:St m (.room a l.length cap e c.sz::own) w)(B:wV P u e)(b:RepS c m a cap l)(p:Gives P c m v k)(A:(dS by_ l k).bind f=some r)
 (h:∀z,f z=some r->∀a' cap' m' w',m.le m'->St m' (.room a' (List.length z) cap' e c.sz::own) w'->RepS c m' a' cap' z->WO P n ops Q (i+1) ((d,.slice a' (List.length z) cap')::L) w')
 (s:dH ops L i=some (some d,.call {callee:= .builtin .append,args:= #[x,y],argTypes:= #[t,u]}):=by kernel_rfl) (o:Nat.blt d n=true:=by exact rfl) (D:bS L x=some (.slice a l.length cap):=by kernel_rfl) (E:bS L y=some v:=by kernel_rfl)
 (hi:wG P t=some (e,c.sz,by_,c.sz):=by kernel_rfl) (q:Nat.blt i ops.size=true:=by exact rfl):WO P n ops Q i L w:=tT q (rZ d t u e by_ x y g B b p A h s o D E hi)
theorem qBw{σ β:Type}{f:σ->Option (σ⊕β)}{k:Nat}{s:σ}{b:β}(h:aA f (k+1) s=some b):∃c,f s=some c/\(∀s',.inl s'=c->aA f k s'=some b)/\(∀b',.inr b'=c->b'=b):=by
 obtain⟨c,a,d,g⟩:=qBi h
 exact⟨c,a,λs' e=>d s' e.symm,λb' e=>g b' e.symm⟩
theorem X_rd{k:Nat}{I:Nat->bO->World->Prop}(h:I k L w):X n (Exit.then (λa' w'=>∃k' L',k'<k+1/\Fits n a' L'/\I k' L' w') Q) .normal L w:=qHa k (Nat.lt_succ_self k) h
theorem qKs{α β:Type}{x:Option α}{f:α->Option β}{b:β}{c:Code}(e:Exit)(k:x.bind f=some b)(I:α->bO->World->Prop)(d:∀o,f o=some b->∀L' w',I o L' w'->X n Q e L' w')
  (a:∀o,x=some o->(∀L' w',I o L' w'->X n Q e L' w')->W ρ P n c Q L w):W ρ P n c Q L w:=by
 obtain⟨o,g,h⟩:=aR k
 exact a o g (d o h)
theorem qJg{α β:Type}{x:Option α}{f:α->Option β}{b:β}(j:Nat)(g:x.bind f=some b)(I:α->bO->World->Prop)(a:∀o,f o=some b->∀L' w',I o L' w'->WO P n ops Q j L' w')
  (c:∀o,x=some o->(∀L' w',I o L' w'->WO P n ops Q j L' w')->WO P n ops Q i L w):WO P n ops Q i L w:=by
 obtain⟨o,d,e⟩:=aR g
 exact c o d (a o e)
class RetQ(P:outParam Program)(Q:Exit->Act->World->Prop)(fn:outParam Func)(R:outParam (Ending->World->Prop)):Prop where
 out:∀a w,bodyPost P fn R .ret a w->Q .ret a w
instance rq1{fn:Func}{R:Ending->World->Prop}:RetQ P (bodyPost P fn R) fn R:=⟨λ_ _ h=>h⟩
instance rq2{fn:Func}{R:Ending->World->Prop}{K:Act->World->Prop}[h:RetQ P Q fn R]:RetQ P (Exit.then K Q) fn R:=⟨h.out⟩
instance rq3{fn:Func}{R:Ending->World->Prop}{id:Nat}[h:RetQ P Q fn R]:RetQ P (Exit.inBlock id Q) fn R:=⟨h.out⟩
theorem rA{k:Nat}{fn:Func}{R:Ending->World->Prop}[hq:RetQ P Q fn R]{b e:Nat}{c:Array Value}{f:Nat×Nat}(s t:Nat)(ts:List Nat)(vs:List Value)(n:Piece.holds m w (.blk b (.cells c e f)))(h:R (.returned (sA (.agg c::vs))) w)
  (l:fn.results=(ResultVar.cell s t::ts.map ResultVar.tmp).toArray:=by exact rfl) (p:look L s=some (.pointer (some ⟨b,0,none⟩)):=by kernel_rfl) (q:qK P t c.toList=some (.agg c):=by kernel_rfl) (d:ts.map (look L)=vs.map some:=by kernel_rfl):X ⟨k,[]⟩ Q .ret L w:=by
 refine λa g=>hq.out a w (qI (ResultVar.cell s t::ts.map .tmp) (.agg c::vs) l (ResAll.cons (ResAt.blk (o:=0) p n (by simpa using q)) ?_) h a g)
 clear l h p q n g hq
 induction ts generalizing vs with
 |nil=>cases vs with
  |nil=>rfl
  |cons v vs=>cases d
 |cons t ts r=>cases vs with
  |nil=>cases d
  |cons v vs=>
   rw[kO,kO,fL] at d
   exact ResAll.cons (ResAt.tmp d.1) (r vs d.2)
end
end Go.Dc
end
namespace Go.Dc
section
section
variable {ρ:Option Nat} {P:Program} {n:Fr} {ops:Array Oper} {Q:Exit->Act->World->Prop} {i:Nat} {L:bO} {w:World} {m:Mem} {own:List Piece}
theorem bU{f:FuncId}{fn:Func}{c:Code}{args:Array Value}{R:Ending->World->Prop}{k:Nat}(_g:St m own w)(hf:P.funcs[f]? =some fn)(hb:fn.body=some c)(hn:fn.ntmps=k)(h:m.le m->W none P ⟨k,[]⟩ c (bodyPost P fn R) (CT args.toList 0) w)
 (hsz:Nat.ble args.size k=true:=by exact rfl):Calls P f args w R:=nQ hf hb hn (h m.le_refl) hsz
theorem cM{σ β:Type}{f:σ->Option (σ⊕β)}{k:Nat}{s:σ}{b:β}(h:aA f k s=some b):∃k' c,k=k'+1/\f s=some c/\(∀s',.inl s'=c->aA f k' s'=some b)/\(∀b',.inr b'=c->b'=b):=by
 cases k with
 |zero=>exact qBd h
 |succ k=>
  obtain⟨c,h1,h2,h3⟩:=qBw h
  exact⟨k,c,rfl,h1,h2,h3⟩
theorem cJ{c:Code}{L':bO}(I:Nat->bO->World->Prop)(k:Nat)(h0:I k L' w)
 (round:∀k L w,I k L w->W ρ P n c (Exit.then (λa' w'=>∃k' L',k'<k/\Fits n a' L'/\I k' L' w') Q) L w) (hs:L'.map (λp=>look L p.1)=L'.map λp=>some p.2:=by kernel_rfl):W ρ P n (.loop c) Q L w:=qLv L' hs (qJd I k h0 round)
theorem cG{k:Nat}{I:Nat->bO->World->Prop}{L':bO}(h:I k L' w)(hs:L'.map (λp=>look L p.1)=L'.map λp=>some p.2:=by kernel_rfl):X n (Exit.then (λa' w'=>∃k' L',k'<k+1/\Fits n a' L'/\I k' L' w') Q) .normal L w:=DF L' hs (X_rd h)
theorem eJ(h:X n Q .normal L w)(hi:ops.size=i:=by exact rfl):WO P n ops Q i L w:=Qi hi h
theorem cL(h:dZ P n ops Q i (λL' w'=>WO P n ops Q (i+1) L' w') L w)(hi:Nat.blt i ops.size=true:=by exact rfl):WO P n ops Q i L w:=tT hi h
theorem Rj{L':bO}(h:WO P n ops Q i L' w)(hs:L'.map (λp=>look L p.1)=L'.map λp=>some p.2:=by kernel_rfl):WO P n ops Q i L w:=Rf L' hs h
theorem bL{α β:Type}{x:Option α}{f:α->Option β}{b:β}{c:Code}(e:Exit)(hr:x.bind f=some b)(I:α->bO->World->Prop)(hend:∀o,f o=some b->∀L' w',I o L' w'->X n Q e L' w')
  (hbody:∀o,x=some o->(∀{a:α} {L':bO} {w':World},some a=some o->I a L' w'->X n Q e L' w')->W ρ P n c Q L w):W ρ P n c Q L w:=
 qKs e hr I hend λo h K=>hbody o h λh' k=>K _ _ (sI h'▸k)
theorem dT{α β:Type}{x:Option α}{f:α->Option β}{b:β}(j:Nat)(hr:x.bind f=some b)(I:α->bO->World->Prop)(hend:∀o,f o=some b->∀L' w',I o L' w'->WO P n ops Q j L' w')
  (hreg:∀o,x=some o->(∀{a:α} {L':bO} {w':World},some a=some o->I a L' w'->WO P n ops Q j L' w')->WO P n ops Q i L w):WO P n ops Q i L w:=
 qJg j hr I hend λo h K=>hreg o h λh' k=>K _ _ (sI h'▸k)
variable [hq:QC Q] {ks':List (Nat×(World->Prop))} {k fuel:Nat} {S:World->Prop} {done:List Nat}
theorem qLb(i d:Nat)(v:Value)(h:WA P n ops Q ((k,S)::ks') fuel (done++[i]) ((d,v)::L) w)(ho:AQ P ops L i=some (d,v):=by kernel_rfl)(hd:Nat.blt d n=true:=by exact rfl)(hs:mZ ops ((k,S)::ks') k i done=true:=by kernel_rfl):WA P n ops Q ((k,S)::ks') (fuel+1) done L w:=
 qMb i d v (.head _) h ho hd hs
theorem eI{α:Type}{k':BA->Option α}{r:α}{a b:BA}(t t2:Nat)(x y:Operand)(i d:Nat)(hr:(bW a b).bind k'=some r)(h:∀s,k' s=some r->WA P n ops Q ((k,S)::ks') fuel (done++[i]) ((d,.string s)::L) w)
  (ho:dH ops L i=some (some d,.binOp .add t x y t2):=by kernel_rfl) (hd:Nat.blt d n=true:=by exact rfl) (hs:mZ ops ((k,S)::ks') k i done=true:=by kernel_rfl) (hx:bS L x=some (.string a):=by kernel_rfl) (hy:bS L y=some (.string b):=by kernel_rfl):WA P n ops Q ((k,S)::ks') (fuel+1) done L w:=
 qJy t t2 x y i d (.head _) hr h ho hd hs hx hy
theorem qLg{e:Nat}{b:Nat}{c:Array Value}{f:Nat×Nat}(i d:Nat)(v:Value)(hI:∀w,S w->Piece.holds m w (.blk b (.cells c e f)))(h:WA P n ops Q ((k,S)::ks') fuel (done++[i]) ((d,v)::L) w)
  (ho:BF P ops L i c.toList=some (d,b,v):=by kernel_rfl) (hd:Nat.blt d n=true:=by exact rfl) (hs:mZ ops ((k,S)::ks') k i done=true:=by kernel_rfl):WA P n ops Q ((k,S)::ks') (fuel+1) done L w:=by
 unfold BF at ho
 split at ho
 .rename_i ha
  split at ho
  .rename_i hb
   simp only[jK,Prod.mk.injEq] at ho
   obtain⟨z,hz,rfl,rfl,rfl⟩:=ho
   exact Gu i _ _ ha hd hs (.head _) hq.out hI hb hz h
  cases ho
 cases ho
theorem qKv{b o:Nat}{cs:List Value}(i d:Nat)(v:Value)(hr:MRow m b o cs)(h:WA P n ops Q ((k,λw=>Inv m w/\S w)::ks') fuel (done++[i]) ((d,v)::L) w)
  (ho:yK P ops L i cs=some (d,b,o,v):=by kernel_rfl) (hd:Nat.blt d n=true:=by exact rfl) (hs:mZ ops ((k,λw=>Inv m w/\S w)::ks') k i done=true:=by kernel_rfl):WA P n ops Q ((k,λw=>Inv m w/\S w)::ks') (fuel+1) done L w:=by
 unfold yK at ho
 split at ho
 .rename_i ha
  split at ho
  .rename_i hb
   simp only[jK,Prod.mk.injEq] at ho
   obtain⟨z,hz,rfl,rfl,rfl,rfl⟩:=ho
   exact Yx i _ _ ha hd hs (.head _) hq.out (λ_ h=>h.1) hb hr hz h
  cases ho
 cases ho
end
theorem cS{A B C:World->Prop}(w:World)(h:A w/\B w/\C w):B w:=h.2.1
theorem lW{A B C D:World->Prop}(w:World)(h:A w/\B w/\C w/\D w):C w:=h.2.2.1
theorem VO{A B C D E:World->Prop}(w:World)(h:A w/\B w/\C w/\D w/\E w):D w:=h.2.2.2.1
theorem prj5{A B C D E F:World->Prop}(w:World)(h:A w/\B w/\C w/\D w/\E w/\F w):E w:=h.2.2.2.2.1
theorem RepS.o{α:Type}{c:Codec α}{m m':Mem}{a:Option Addr}{cap:Nat}{l:List α}(h:RepS c m a cap l)(hle:m.le m'):RepS c m' a cap l:=h.mono hle
theorem MRow.o{m m':Mem}{b o:Nat}{cs:List Value}(h:MRow m b o cs)(hle:m.le m'):MRow m' b o cs:=h.mono hle
theorem MapQ.o{κ ν:Type}{ek:κ->Value}{c:Codec ν}{agg:Bool}{m m':Mem}{q:Option Nat}{es:Array MapEntry}{ck:Nat}{o:Option (List (κ×ν))}(h:MapQ ek c agg m q es ck o)(hle:m.le m'):MapQ ek c agg m' q es ck o:=h.mono hle
theorem ItR.o{κ ν:Type}{ek:κ->Value}{c:Codec ν}{agg:Bool}{m m':Mem}{es:Array MapEntry}{seen:Array Nat}{rem:List (κ×ν)}(h:ItR ek c agg m es seen rem)(hle:m.le m'):ItR ek c agg m' es seen rem:=h.mono hle
theorem aC{m m':Mem}{own:List Piece}{w:World}{p:Prop}(st:St m' own w)(hle:m.le m')(h:Inv m w->(∀{b:Nat} {o:Obj},List.Mem (Piece.blk b o) own->Piece.holds m w (.blk b o))->(∀{a:Option Addr} {cs:Array Value} {e:TypeId},List.Mem (bM a cs e) own->Piece.holds m w (bM a cs e))->p:=by
 intro hI hB hO
 repeat' first
  |with_reducible exact hI
  |with_reducible exact trivial
  |with_reducible refine And.intro ?_ ?_
  |with_reducible (refine hB ?_;(repeat' first|exact List.Mem.head _|apply List.Mem.tail);done)
  |with_reducible (refine hO ?_;(repeat' first|exact List.Mem.head _|apply List.Mem.tail);done)
  |(refine hB ?_;(repeat' first|exact List.Mem.head _|apply List.Mem.tail);done)
  |(refine hO ?_;(repeat' first|exact List.Mem.head _|apply List.Mem.tail);done)):p:=h (Inv.anti st.inv hle) (λhm=>qKf st hle hm) (λhm=>qJj st hle hm)
theorem aI{A S:Prop}(h:S):(A\/S)/\True:=⟨.inr h,trivial⟩
theorem qT{A B S T:Prop}(h:S)(b:B:=by kernel_rfl):(A\/S)/\(B\/T)/\True:=⟨.inr h,.inl b,trivial⟩
theorem iJ{A B S T:Prop}(h:S)(k:T):(A\/S)/\(B\/T)/\True:=⟨.inr h,.inr k,trivial⟩
abbrev PN(s:BA):Value:= .string s
abbrev pA(n:Int):Value:= .int .i64 n
abbrev dN(m m':Mem)(e:Ending)(v:Value)(X:List Piece)(w:World):Prop:=e= .returned v/\m.le m'/\St m' X w
abbrev cV(m m':Mem)(e:Ending)(v:Value)(X:List Piece)(w:World)(R:Prop):Prop:=e= .returned v/\m.le m'/\St m' X w/\R
section
variable {ρ:Option Nat} {P:Program} {n:Fr} {ops:Array Oper} {Q:Exit->Act->World->Prop} {i:Nat} {L:bO} {w:World} {m:Mem} {own:List Piece} {N:bO->World->Prop}
def lE(P:Program)(n:Nat)(ops:Array Oper)(k i:Nat)(L:bO):bO:=(lZ P n ops k i L).getD []
theorem cA(k:Nat)(h:WO P n ops Q (i+k) (lE P n ops k i L) w)(h1:(lZ P n ops k i L).isSome=true:=by kernel_rfl):WO P n ops Q i L w:=by
 cases hs:lZ P n ops k i L with
 |none=>rw[hs] at h1;cases h1
 |some L'=>
  rw[lE,hs] at h
  exact Ba k i L L' w hs h
theorem aZ{y:Code}(h:W ρ P n y Q (lE P n ops (ops.size-i) i L) w)(h1:(lZ P n ops (ops.size-i) i L).isSome=true:=by kernel_rfl)(hi:ops.size=i+(ops.size-i):=by kernel_rfl):
 WO P n ops (Exit.then (λa w=>y.wpIn (iK ρ) 0 P Q a w) Q) i L w:=cA (ops.size-i) (Cf hi h) h1
theorem bG{id:Nat}{y:Code}(h:W none P n y Q (lE P n ops ops.size 0 L) w)(h1:(lZ P n ops ops.size 0 L).isSome=true:=by kernel_rfl):W none P n (.seq (.region id ops false) y) Q L w:=
 aB (cA ops.size (Cf aa h) h1)
theorem bF{id:Nat}{y:Code}(k:Nat)(h:WO P n ops (Exit.then (λa w=>y.wpIn (iK none) 0 P Q a w) Q) (0+k) (lE P n ops k 0 L) w)(h1:(lZ P n ops k 0 L).isSome=true:=by kernel_rfl):W none P n (.seq (.region id ops false) y) Q L w:=
 aB (cA k h h1)
def ID(P:Program)(ops:Array Oper)(L:bO)(i:Nat)(cs:List Value):bO:=
 match yK P ops L i cs with
 |some q=>(q.1,q.2.2.2)::L
 |none=>L
theorem bC{b o:Nat}{cs:List Value}(hst:St m own w)(hr:MRow m b o cs)(h:WO P n ops Q (i+1) (ID P ops L i cs) w)
  (ho:(yK P ops L i cs).map (λq=>(q.2.1,q.2.2.1,Nat.blt q.1 n))=some (b,o,true):=by kernel_rfl) (hi:Nat.blt i ops.size=true:=by exact rfl):WO P n ops Q i L w:=by
 simp only[jK,Prod.mk.injEq] at ho
 obtain⟨⟨d,b',o',v⟩,ho,rfl,rfl,hd⟩:=ho
 simp only[ID,ho] at h
 exact qLk d v hst hr h ho hd hi
def OT(P:Program)(ops:Array Oper)(L:bO)(i:Nat)(cs:List Value):bO:=
 match BF P ops L i cs with
 |some q=>(q.1,q.2.2)::L
 |none=>L
theorem bX{e:TypeId}{b:Nat}{c:Array Value}{f:Nat×Nat}(hp:Piece.holds m w (.blk b (.cells c e f)))(h:WO P n ops Q (i+1) (OT P ops L i c.toList) w)
  (ho:(BF P ops L i c.toList).map (λq=>(q.2.1,Nat.blt q.1 n))=some (b,true):=by kernel_rfl) (hi:Nat.blt i ops.size=true:=by exact rfl):WO P n ops Q i L w:=by
 simp only[jK,Prod.mk.injEq] at ho
 obtain⟨⟨d,b',v⟩,ho,rfl,hd⟩:=ho
 simp only[OT,ho] at h
 exact qMa d v hp h ho hd hi
theorem aW{e:TypeId}{b:Nat}{c:Array Value}{f:Nat×Nat}(k:Nat)(hp:Piece.holds m w (.blk b (.cells c e f)))(h:WO P n ops Q (i+k+1) (OT P ops (lE P n ops k i L) (i+k) c.toList) w)
  (h1:(lZ P n ops k i L).isSome=true:=by kernel_rfl) (ho:(BF P ops (lE P n ops k i L) (i+k) c.toList).map (λq=>(q.2.1,Nat.blt q.1 n))=some (b,true):=by kernel_rfl) (hi:Nat.blt (i+k) ops.size=true:=by exact rfl):WO P n ops Q i L w:=
 cA k (bX hp h ho hi) h1
def AW(P:Program)(ops:Array Oper)(L:bO)(i:Nat)(v:Value):bO:=
 match sY P ops L i with
 |some (some d,_)=>(d,v)::L
 |_=>L
theorem Nq{L:bO}{i f:Nat}{args:Array Value}{v:Value}(h:(sY P ops L i).map (λq=>(q.1.map λd=>Nat.blt d n,q.2))=some (some true,f,args)):
  ∃d,sY P ops L i=some (some d,f,args)/\Nat.blt d n=true/\AW P ops L i v=(d,v)::L:=by
 simp only[jK,Prod.mk.injEq] at h
 obtain⟨⟨d',q⟩,h1,⟨d,rfl,hd⟩,rfl⟩:=h
 exact⟨d,h1,hd,by simp only[AW,h1]⟩
theorem aX{α β:Type}{f:Nat}{args:Array Value}{x:Option β}{k:β->Option α}{r:α}{T:β->Ending->World->Prop}(hr:x.bind k=some r)(hF:∀{y},x=some y->Calls P f args w (T y))
  (h:∀y,k y=some r->∀e w',T y e w'->GoOn (λv=>WO P n ops Q (i+1) (AW P ops L i v) w') e) (ho:(sY P ops L i).map (λq=>(q.1.map λd=>Nat.blt d n,q.2))=some (some true,f,args):=by kernel_rfl) (hi:Nat.blt i ops.size=true:=by exact rfl):WO P n ops Q i L w:=by
 obtain⟨d,h1,hd,_⟩:=Nq (v:=undef) ho
 refine qIt d hr (λ_=>hF) (λy hy e w' ht=> ?_) h1 hd hi
 have:=h y hy e w' ht
 simpa only[AW,h1] using this
theorem bQ{α β:Type}{f:Nat}{args:Array Value}{x:Option β}{k:β->Option α}{r:α}{T:β->Ending->World->Prop}(hr:x.bind k=some r)(hF:∀y,x=some y->Calls P f args w (T y))
  (h:∀y,k y=some r->∀e w',T y e w'->∃v,e= .returned v/\N (AW P ops L i v) w') (ho:(sY P ops L i).map (λq=>(q.1.map λd=>Nat.blt d n,q.2))=some (some true,f,args):=by kernel_rfl):dZ P n ops Q i N L w:=by
 obtain⟨d,h1,hd,_⟩:=Nq (v:=undef) ho
 refine qHc d hr hF (λy hy e w' ht=> ?_) h1 hd
 have:=h y hy e w' ht
 simpa only[AW,h1] using this
def xI(L:bO):List ResultVar->Option (List Value)
 |[]=>some []
 | .tmp t::l=>match look L t with
  |some v=>(xI L l).map λvs=>v::vs
  |none=>none
 |_::_=>none
theorem Ak:∀(l:List ResultVar) (vs:List Value),xI L l=some vs->ResAll P w L l vs
 |[],vs,h=>by cases h;rfl
 | .tmp t::l,vs,h=>by
  simp only[xI] at h
  split at h
  .rename_i v hv
   simp only[jK] at h
   obtain⟨vs',h1,rfl⟩:=h
   exact ResAll.cons (ResAt.tmp hv) (Ak l vs' h1)
  cases h
 | .cell _ _::_,_,h=>by cases h
theorem pN{k:Nat}{fn:Func}{R:Ending->World->Prop}{v:Value}(h:R (.returned v) w)(hl:(xI L fn.results.toList).map sA=some v:=by kernel_rfl):X ⟨k,[]⟩ (bodyPost P fn R) .ret L w:=by
 simp only[jK] at hl
 obtain⟨vs,h1,rfl⟩:=hl
 exact qI fn.results.toList vs ad (Ak _ _ h1) h
theorem eV{k:Nat}{fn:Func}{R:Ending->World->Prop}[hq:RetQ P Q fn R]{v:Value}(h:R (.returned v) w)(hl:(xI L fn.results.toList).map sA=some v:=by kernel_rfl):X ⟨k,[]⟩ Q .ret L w:=
 λa ha=>hq.out a w (pN h hl a ha)
theorem iI{k:Nat}{fn:Func}{R:Ending->World->Prop}[hq:RetQ P Q fn R]{v:Value}(h:R (.returned v) w)(hl:(xI L fn.results.toList).map sA=some v:=by kernel_rfl):W ρ P ⟨k,[]⟩ .ret Q L w:=bI (eV h hl)
theorem iN{k:Nat}{fn:Func}{R:Ending->World->Prop}[hq:RetQ P Q fn R]{v:Value}(h:R (.returned v) w)(hl:(xI L fn.results.toList).map sA=some v:=by kernel_rfl):X ⟨k,[]⟩ (Exit.then (λa w=>Code.ret.wpIn (iK ρ) 0 P Q a w) Q) .normal L w:=aY (iI h hl)
theorem dM{k:Nat}{fn:Func}{R:Ending->World->Prop}[hq:RetQ P Q fn R]{v:Value}(h:R (.returned v) w)(hl:(xI (lE P k ops (ops.size-i) i L) fn.results.toList).map sA=some v:=by kernel_rfl)(h1:(lZ P k ops (ops.size-i) i L).isSome=true:=by kernel_rfl)(hi:ops.size=i+(ops.size-i):=by kernel_rfl):
 WO P ⟨k,[]⟩ ops (Exit.then (λa w=>Code.ret.wpIn (iK ρ) 0 P Q a w) Q) i L w:=aZ (iI h hl) h1 hi
theorem cB{id k:Nat}{fn:Func}{R:Ending->World->Prop}[hq:RetQ P Q fn R]{v:Value}(h:R (.returned v) w)(hl:(xI (lE P k ops ops.size 0 L) fn.results.toList).map sA=some v:=by kernel_rfl)(h1:(lZ P k ops ops.size 0 L).isSome=true:=by kernel_rfl):
 W none P ⟨k,[]⟩ (.seq (.region id ops false) .ret) Q L w:=bG (iI h hl) h1
def Si(P:Program)(L:bO)(c:Array Value):List ResultVar->Option (Option Value×Option Value×Value)
 | .cell s t::l=>(xI L l).map λvs=>(look L s,qK P t c.toList,sA (.agg c::vs))
 |_=>none
theorem iE{k:Nat}{fn:Func}{R:Ending->World->Prop}[hq:RetQ P Q fn R]{b e:Nat}{c:Array Value}{f:Nat×Nat}{v:Value}(hp:Piece.holds m w (.blk b (.cells c e f)))(h:R (.returned v) w)
  (ho:Si P L c fn.results.toList=some (some (.pointer (some ⟨b,0,none⟩)),some (.agg c),v):=by kernel_rfl):X ⟨k,[]⟩ Q .ret L w:=by
 cases hf:fn.results.toList with
 |nil=>rw[hf] at ho;cases ho
 |cons x l=>
  rw[hf] at ho
  cases x with
  |tmp t=>cases ho
  |cell s t=>
   simp only[Si,jK,Prod.mk.injEq] at ho
   obtain⟨vs,h1,h2,h3,rfl⟩:=ho
   exact λa ha=>hq.out a w (qI (ResultVar.cell s t::l) (.agg c::vs) (by rw[<-hf]) (ResAll.cons (ResAt.blk (o:=0) h2 hp (by simpa using h3)) (Ak _ _ h1)) h a ha)
theorem dD{α β:Type}{c:Codec α}{a:Option Addr}{cap:Nat}{l:List α}{ix:Int}{k:α->Option β}{r:β}(hrp:RepS c m a cap l)(hr:(aO l ix).bind k=some r)
  (h:∀z,k z=some r->∀b o cs,c.rep m z cs->MRow m b o cs->WO P n ops Q (i+1) ((((VK P ops L i).map (·.1)).getD 0,.pointer (some ⟨b,o,none⟩))::L) w)
  (ho:(VK P ops L i).map (λq=>(Nat.blt q.1 n,q.2))=some (true,.slice a l.length cap,ix,c.sz):=by kernel_rfl) (hi:Nat.blt i ops.size=true:=by exact rfl):WO P n ops Q i L w:=by
 simp only[jK,Prod.mk.injEq] at ho
 obtain⟨⟨d,q⟩,ho,hd,rfl⟩:=ho
 simp only[ho,gJ,hJ] at h
 exact qLr d hrp hr h ho hd hi
theorem dU{α:Type}{k:BA->Option α}{r:α}{a b:BA}(hr:(bW a b).bind k=some r)(h:∀s,k s=some r->WO P n ops Q (i+1) ((((VJ ops L i).map (·.1)).getD 0,.string s)::L) w)
  (ho:(VJ ops L i).map (λq=>(Nat.blt q.1 n,q.2))=some (true,a,b):=by kernel_rfl) (hi:Nat.blt i ops.size=true:=by exact rfl):WO P n ops Q i L w:=by
 simp only[jK,Prod.mk.injEq] at ho
 obtain⟨⟨d,q⟩,ho,hd,rfl⟩:=ho
 simp only[ho,gJ,hJ] at h
 exact qKw d hr h ho hd hi
theorem aN{L':bO}(k:Nat)(h:WO P n ops Q (i+k) L' w)(h1:(lZ P n ops k i L).isSome=true:=by kernel_rfl)(hs:L'.map (λp=>look (lE P n ops k i L) p.1)=L'.map λp=>some p.2:=by kernel_rfl):WO P n ops Q i L w:=cA k (Rj h hs) h1
theorem cW(k:Nat)(h:X n Q .normal (lE P n ops k i L) w)(h1:(lZ P n ops k i L).isSome=true:=by kernel_rfl)(hi:ops.size=i+k:=by exact rfl):WO P n ops Q i L w:=cA k (eJ h hi) h1
theorem aL{y:Code}(h:W ρ P n y Q L w):W ρ P n .skip (Exit.then (λa w=>y.wpIn (iK ρ) 0 P Q a w) Q) L w:=lU (aY h)
theorem eD{L':bO}(h:X n Q .normal L' w)(hs:L'.map (λp=>look L p.1)=L'.map λp=>some p.2:=by kernel_rfl):W ρ P n .skip Q L w:=lU (xE h hs)
theorem iF{x y:Code}(h:W ρ P n x (Exit.then (λa w=>y.wpIn (iK ρ) 0 P Q a w) Q) L w):X n (Exit.then (λa w=>(Code.seq x y).wpIn (iK ρ) 0 P Q a w) Q) .normal L w:=aY (aF h)
theorem uF{id:Nat}{y:Code}(k:Nat)(h:WO P n ops (Exit.then (λa w=>y.wpIn (iK none) 0 P Q a w) Q) (0+k) (lE P n ops k 0 L) w)(h1:(lZ P n ops k 0 L).isSome=true:=by kernel_rfl):X n (Exit.then (λa w=>(Code.seq (.region id ops false) y).wpIn (iK none) 0 P Q a w) Q) .normal L w:=aY (bF k h h1)
theorem cF{id:Nat}{K:Act->World->Prop}(h:X n Q (.exit id) L w):W ρ P n (.exit id) (Exit.then K Q) L w:=UN (ML h)
theorem cC{id:Nat}{K:Act->World->Prop}{L':bO}(h:X n Q (.exit id) L' w)(hs:L'.map (λp=>look L p.1)=L'.map λp=>some p.2:=by kernel_rfl):X n (Exit.then K Q) (.exit id) L w:=ML (xE h hs)
theorem bK{id:Nat}{x y:Code}(h:W none P n x (Exit.then (λa w=>y.wpIn (iK none) 0 P Q a w) Q) (lE P n ops ops.size 0 L) w)(h1:(lZ P n ops ops.size 0 L).isSome=true:=by kernel_rfl):W none P n (.seq (.region id ops false) (.seq x y)) Q L w:=bG (aF h) h1
theorem cZ{x y:Code}(h:W ρ P n x (Exit.then (λa w=>y.wpIn (iK ρ) 0 P Q a w) Q) (lE P n ops (ops.size-i) i L) w)(h1:(lZ P n ops (ops.size-i) i L).isSome=true:=by kernel_rfl)(hi:ops.size=i+(ops.size-i):=by kernel_rfl):
 WO P n ops (Exit.then (λa w=>(Code.seq x y).wpIn (iK ρ) 0 P Q a w) Q) i L w:=aZ (aF h) h1 hi
theorem nN{id id':Nat}{y:Code}{ops':Array Oper}(h:WO P n ops' (Exit.then (λa w=>y.wpIn (iK none) 0 P Q a w) Q) 0 (lE P n ops ops.size 0 L) w)(h1:(lZ P n ops ops.size 0 L).isSome=true:=by kernel_rfl):W none P n (.seq (.region id ops false) (.seq (.region id' ops' false) y)) Q L w:=bG (aB h) h1
theorem nV{id:Nat}{y:Code}{ops':Array Oper}(h:WO P n ops' (Exit.then (λa w=>y.wpIn (iK none) 0 P Q a w) Q) 0 (lE P n ops (ops.size-i) i L) w)(h1:(lZ P n ops (ops.size-i) i L).isSome=true:=by kernel_rfl)(hi:ops.size=i+(ops.size-i):=by kernel_rfl):
 WO P n ops (Exit.then (λa w=>(Code.seq (.region id ops' false) y).wpIn (iK none) 0 P Q a w) Q) i L w:=aZ (aB h) h1 hi
theorem eH{id:Nat}{c:Code}(h:W ρ P n c (Exit.inBlock id Q) (lE P n ops (ops.size-i) i L) w)(h1:(lZ P n ops (ops.size-i) i L).isSome=true:=by kernel_rfl)(hi:ops.size=i+(ops.size-i):=by kernel_rfl):
 WO P n ops (Exit.then (λa w=>(Code.block id c).wpIn (iK ρ) 0 P Q a w) Q) i L w:=aZ (aU h) h1 hi
theorem dV{id:Nat}(k:Nat)(h:WO P n ops Q (0+k) (lE P n ops k 0 L) w)(h1:(lZ P n ops k 0 L).isSome=true:=by kernel_rfl):W none P n (.region id ops false) Q L w:=oL (cA k h h1)
theorem bV{id:Nat}(k:Nat)(h:X n Q .normal (lE P n ops k 0 L) w)(h1:(lZ P n ops k 0 L).isSome=true:=by kernel_rfl)(hi:ops.size=0+k:=by exact rfl):W none P n (.region id ops false) Q L w:=oL (cW k h h1 hi)
theorem iU{id:Nat}{y:Code}(h:W ρ P n y Q L w):X n (Exit.inBlock id (Exit.then (λa w=>y.wpIn (iK ρ) 0 P Q a w) Q)) .normal L w:=iX (aY h)
theorem dB{id:Nat}{y:Code}(h:W ρ P n y Q L w):X n (Exit.inBlock id (Exit.then (λa w=>y.wpIn (iK ρ) 0 P Q a w) Q)) (.exit id) L w:=oK (aY h)
theorem eK{id:Nat}{y:Code}(h:W ρ P n y Q L w):W ρ P n .skip (Exit.inBlock id (Exit.then (λa w=>y.wpIn (iK ρ) 0 P Q a w) Q)) L w:=lU (iU h)
theorem eG{id:Nat}{L':bO}(h:X n Q .normal L' w)(hs:L'.map (λp=>look L p.1)=L'.map λp=>some p.2:=by kernel_rfl):X n (Exit.inBlock id Q) .normal L w:=iX (xE h hs)
theorem oA{L':bO}(h:X n Q .normal L' w)(hi:ops.size=i:=by exact rfl)(hs:L'.map (λp=>look L p.1)=L'.map λp=>some p.2:=by kernel_rfl):WO P n ops Q i L w:=eJ (xE h hs) hi
theorem dQ{α β:Type}{f:Nat}{args:Array Value}{x:Option β}{k:β->Option α}{r:α}{T:β->Ending->World->Prop}(j:Nat)(hr:x.bind k=some r)(hF:∀{y},x=some y->Calls P f args w (T y))
 (h:∀y,k y=some r->∀e w',T y e w'->GoOn (λv=>WO P n ops Q (i+j+1) (AW P ops (lE P n ops j i L) (i+j) v) w') e) (h1:(lZ P n ops j i L).isSome=true:=by kernel_rfl) (ho:(sY P ops (lE P n ops j i L) (i+j)).map (λq=>(q.1.map λd=>Nat.blt d n,q.2))=some (some true,f,args):=by kernel_rfl)
 (hi:Nat.blt (i+j) ops.size=true:=by exact rfl):WO P n ops Q i L w:=cA j (aX hr hF h ho hi) h1
theorem bT{id:Nat}{y':Code}{α β:Type}{f:Nat}{args:Array Value}{x:Option β}{k:β->Option α}{r:α}{T:β->Ending->World->Prop}(j:Nat)(hr:x.bind k=some r)(hF:∀{y},x=some y->Calls P f args w (T y))
 (h:∀y,k y=some r->∀e w',T y e w'->GoOn (λv=>WO P n ops (Exit.then (λa w=>y'.wpIn (iK none) 0 P Q a w) Q) (0+j+1) (AW P ops (lE P n ops j 0 L) (0+j) v) w') e) (h1:(lZ P n ops j 0 L).isSome=true:=by kernel_rfl) (ho:(sY P ops (lE P n ops j 0 L) (0+j)).map (λq=>(q.1.map λd=>Nat.blt d n,q.2))=some (some true,f,args):=by kernel_rfl)
 (hi:Nat.blt (0+j) ops.size=true:=by exact rfl):W none P n (.seq (.region id ops false) y') Q L w:=aB (dQ j hr hF h h1 ho hi)
theorem cI{b o:Nat}{cs:List Value}(k:Nat)(hst:St m own w)(hr:MRow m b o cs)(h:WO P n ops Q (i+k+1) (ID P ops (lE P n ops k i L) (i+k) cs) w)
 (h1:(lZ P n ops k i L).isSome=true:=by kernel_rfl) (ho:(yK P ops (lE P n ops k i L) (i+k) cs).map (λq=>(q.2.1,q.2.2.1,Nat.blt q.1 n))=some (b,o,true):=by kernel_rfl) (hi:Nat.blt (i+k) ops.size=true:=by exact rfl):WO P n ops Q i L w:=cA k (bC hst hr h ho hi) h1
theorem dG{id:Nat}{y:Code}{b o:Nat}{cs:List Value}(k:Nat)(hst:St m own w)(hr:MRow m b o cs)(h:WO P n ops (Exit.then (λa w=>y.wpIn (iK none) 0 P Q a w) Q) (0+k+1) (ID P ops (lE P n ops k 0 L) (0+k) cs) w)
 (h1:(lZ P n ops k 0 L).isSome=true:=by kernel_rfl) (ho:(yK P ops (lE P n ops k 0 L) (0+k) cs).map (λq=>(q.2.1,q.2.2.1,Nat.blt q.1 n))=some (b,o,true):=by kernel_rfl) (hi:Nat.blt (0+k) ops.size=true:=by exact rfl):W none P n (.seq (.region id ops false) y) Q L w:=aB (cI k hst hr h h1 ho hi)
theorem bJ{α:Type}{b:Bool}{A B:Option α}{r:α}(k t:Nat)(hr:(if b then A else B)=some r)(ht:b=true->A=some r->WO P n ops Q (i+k) ((t,.bool true)::lE P n ops k i L) w)(hf:b=false->B=some r->WO P n ops Q (i+k) ((t,.bool false)::lE P n ops k i L) w)
 (h1:(lZ P n ops k i L).isSome=true:=by kernel_rfl) (hl:look (lE P n ops k i L) t=some (.bool b):=by kernel_rfl):WO P n ops Q i L w:=cA k (qMc t hr ht hf hl) h1
theorem dE{α:Type}{y z:Code}{c:Operand}{b:Bool}{A B:Option α}{r:α}(hr:(if b then A else B)=some r)(ht:b=true->A=some r->W ρ P n y Q (lE P n ops (ops.size-i) i L) w)(hf:b=false->B=some r->W ρ P n z Q (lE P n ops (ops.size-i) i L) w)
 (h1:(lZ P n ops (ops.size-i) i L).isSome=true:=by kernel_rfl) (hi:ops.size=i+(ops.size-i):=by kernel_rfl) (hc:bS (lE P n ops (ops.size-i) i L) c=some (.bool b):=by kernel_rfl):
 WO P n ops (Exit.then (λa w=>(Code.cond c y z).wpIn (iK ρ) 0 P Q a w) Q) i L w:=aZ (aM hr ht hf hc) h1 hi
theorem bN{id:Nat}{α:Type}{y z:Code}{c:Operand}{b:Bool}{A B:Option α}{r:α}(hr:(if b then A else B)=some r)(ht:b=true->A=some r->W none P n y Q (lE P n ops ops.size 0 L) w)(hf:b=false->B=some r->W none P n z Q (lE P n ops ops.size 0 L) w)
 (h1:(lZ P n ops ops.size 0 L).isSome=true:=by kernel_rfl) (hc:bS (lE P n ops ops.size 0 L) c=some (.bool b):=by kernel_rfl):W none P n (.seq (.region id ops false) (.cond c y z)) Q L w:=bG (aM hr ht hf hc) h1
variable [hq:QC Q] {ks':List (Nat×(World->Prop))} {k fuel:Nat} {S:World->Prop} {done:List Nat}
def psD(P:Program)(n:Fr)(ops:Array Oper)(ks:List (Nat×(World->Prop)))(k:Nat)(l done:List Nat)(L:bO):bO:=Cm L ((DG P n ops ks k l done L).getD [])
theorem Qc{ks:List (Nat×(World->Prop))}(hmem:(k,S)∈ks):∀(l:List Nat) (fuel:Nat) (done:List Nat) (L r:bO),DG P n ops ks k l done L=some r->WA P n ops Q ks fuel (done++l) (Cm L r) w->WA P n ops Q ks (fuel+l.length) done L w
 |[],_,done,L,r,hg,h=>by cases hg;rw[gT] at h;exact h
 |x::l,fuel,done,L,r,hg,h=>by
  simp only[DG] at hg
  cases h1:UX P n ops ks k x done L with
  |none=>rw[h1] at hg;cases hg
  |some q=>
   rw[h1] at hg
   dsimp only at hg
   cases h2:DG P n ops ks k l (done++[x]) (q::L) with
   |none=>rw[h2] at hg;cases hg
   |some r'=>
    rw[h2] at hg
    cases hg
    refine qLu hmem h1 (Qc hmem l fuel (done++[x]) (q::L) r' h2 ?_)
    rw[jW]
    exact h
theorem aT(m:Nat)(l:List Nat)(h:WA P n ops Q ((k,S)::ks') fuel (done++l) (psD P n ops ((k,S)::ks') k l done L) w)
  (hg:(DG P n ops ((k,S)::ks') k l done L).isSome=true:=by kernel_rfl) (hm:l.length=m:=by exact rfl):WA P n ops Q ((k,S)::ks') (fuel+m) done L w:=by
 subst hm
 cases hs:DG P n ops ((k,S)::ks') k l done L with
 |none=>rw[hs] at hg;cases hg
 |some r=>
  rw[psD,hs] at h
  exact Qc (List.Mem.head _) l fuel done L r hs h
def Rt(P:Program)(ops:Array Oper)(L:bO)(i:Nat):bO:=
 match AQ P ops L i with
 |some q=>q::L
 |none=>L
theorem aS(i:Nat)(h:WA P n ops Q ((k,S)::ks') fuel (done++[i]) (Rt P ops L i) w)(ho:(AQ P ops L i).map (λq=>Nat.blt q.1 n)=some true:=by kernel_rfl)(hs:mZ ops ((k,S)::ks') k i done=true:=by kernel_rfl):WA P n ops Q ((k,S)::ks') (fuel+1) done L w:=by
 simp only[jK] at ho
 obtain⟨⟨d,v⟩,ho,hd⟩:=ho
 simp only[Rt,ho] at h
 exact qLb i d v h ho hd hs
theorem cE{e:Nat}{b:Nat}{c:Array Value}{f:Nat×Nat}(i:Nat)(hI:∀w,S w->Piece.holds m w (.blk b (.cells c e f)))(h:WA P n ops Q ((k,S)::ks') fuel (done++[i]) (OT P ops L i c.toList) w)
  (ho:(BF P ops L i c.toList).map (λq=>(q.2.1,Nat.blt q.1 n))=some (b,true):=by kernel_rfl) (hs:mZ ops ((k,S)::ks') k i done=true:=by kernel_rfl):WA P n ops Q ((k,S)::ks') (fuel+1) done L w:=by
 simp only[jK,Prod.mk.injEq] at ho
 obtain⟨⟨d,b',v⟩,ho,rfl,hd⟩:=ho
 simp only[OT,ho] at h
 exact qLg i d v hI h ho hd hs
theorem cQ{b o:Nat}{cs:List Value}(i:Nat)(hr:MRow m b o cs)(h:WA P n ops Q ((k,λw=>Inv m w/\S w)::ks') fuel (done++[i]) (ID P ops L i cs) w)
  (ho:(yK P ops L i cs).map (λq=>(q.2.1,q.2.2.1,Nat.blt q.1 n))=some (b,o,true):=by kernel_rfl) (hs:mZ ops ((k,λw=>Inv m w/\S w)::ks') k i done=true:=by kernel_rfl):WA P n ops Q ((k,λw=>Inv m w/\S w)::ks') (fuel+1) done L w:=by
 simp only[jK,Prod.mk.injEq] at ho
 obtain⟨⟨d,b',o',v⟩,ho,rfl,rfl,hd⟩:=ho
 simp only[ID,ho] at h
 exact qKv i d v hr h ho hd hs
end
theorem andL{a b:Prop}(hb:b)(ha:a):a/\b:=⟨ha,hb⟩
theorem leL{m m':Mem}{b:Prop}(hb:b)(ha:m.le m'):m.le m'/\b:=⟨ha,hb⟩
theorem zl1{m m':Mem}(h:m.le m':=by first|assumption|exact(λb a=>Mem.le_trans a b) af af|exact Mem.le_trans af af):m.le m':=h
theorem vU{m m':Mem}(h:m.le m':=by first|exact zl1|exact(λb a=>Mem.le_trans a b) af zl1|exact Mem.le_trans af zl1):m.le m':=h
theorem zl3{m m':Mem}(h:m.le m':=by first|exact vU|exact(λb a=>Mem.le_trans a b) af vU|exact Mem.le_trans af vU):m.le m':=h
theorem zA{m1:Mem}{own:List Piece}{w:World}{p:Prop}(g:St m1 own w)(h:St m1 own w->p:=by
 intro g
 repeat (with_reducible apply Exists.intro)
 repeat (first
  |with_reducible apply leL
  |refine And.intro (by first
   |with_reducible exact g
   |with_reducible assumption
   |exact RepS.nil _ _
   |with_reducible exact RepS.o af vU
   |with_reducible exact MRow.o af vU
   |with_reducible exact MapQ.o af vU
   |with_reducible exact ItR.o af vU) ?_
  |with_reducible apply andL)
 first
  |with_reducible exact g
  |with_reducible assumption
  |exact RepS.nil _ _
  |with_reducible exact RepS.o af vU
  |with_reducible exact MRow.o af vU
  |with_reducible exact MapQ.o af vU
  |with_reducible exact ItR.o af vU
  |exact g
  |exact rfl
  |assumption
 all_goals (first
  |exact rfl
  |with_reducible exact zl3
  |exact Mem.le_refl _
  |exact g)
 done):p:=h g
theorem zE{m m1:Mem}{own:List Piece}{w:World}{p:Prop}(g:St m1 own w)(q:m.le m1)(h:St m1 own w->m.le m1->p:=by intro g q;exact zA g):p:=h g q
end
end Go.Dc
namespace Go.Proofs.YtgboehjfofcogaaGreatDoor
section
open Go Go.Dc
abbrev Ta:=BA
abbrev Tb:=List Ta
abbrev Tc:=Option Tb
abbrev Td:=Option Int
abbrev Te:=List Int
abbrev Tf:=Te×Int
abbrev Tg:=Tf×Int
abbrev Th:=Tf×Ta
abbrev Ti:=Option Th
abbrev Tj:=Option (Int⊕Unit⊕Bool)
abbrev Tk:=Option Bool
abbrev Tl:=Option Ta
abbrev Tm:=Ta×Int×Tf
abbrev Tn:=Ta×Tf
abbrev To:=Ta×Tb×Int×Tf
abbrev Tp:=Tb×Tf
abbrev Tq:=Ta×Int
abbrev Tr:=Tq⊕Ta
abbrev Ts:=Ta×Ta
abbrev Tt:=List Ts
abbrev Tu:=Int×Tt
abbrev Tv:=Bool×Tt
abbrev Tw:=Option Tt
abbrev Tx:=List UInt8
abbrev Ty:=Tx×Int×Tf
abbrev Tz:=Tt×Tf
abbrev IH:=Int×Tz
abbrev BO:=Tf×Tt
abbrev iP:=List Tq
abbrev IK:=iP×Tf
abbrev T1a:=Tf×iP
abbrev iZ:=Int×Int
abbrev vJ:=Int×iZ
abbrev qC:=Option (Int⊕Unit⊕Int)
abbrev II:=Int×Ta×iZ
abbrev qB:=List II
abbrev mB:=Int×Int×Int×Ta×Te
abbrev dY:=List mB
abbrev dW:=qB×Int×Int×Int×Tb×dY×Te
abbrev T1j:=dW×II
abbrev PG:=dW×Bool
abbrev EA:=Option (Bool×dW)
abbrev rB:=Option dW
abbrev DU:=dW×Ta
abbrev BN:=Int×Ta×Tb×dY
abbrev xJ:=List BN
abbrev dR:=Ta×Tb×xJ
abbrev pP:=dW×Int
abbrev lM:=Option pP
abbrev PE:=Te×dW
abbrev sL:=Int×dW
abbrev T1v:=sL⊕sL
abbrev T1w:=sL⊕T1v
abbrev uL:=qB×Int×Int×Int×Tb×dY×Te×Tb
abbrev T1y:=dW×BN
abbrev T1z:=qB×Int×Int×Int×Tb×dY×Tf
abbrev PP:=qB×Int×Int×Int×Tb×dY×Te×xJ
abbrev DX:=List dR
abbrev iO:=Tb×DX
abbrev ED:=Ta×Ta×iZ
abbrev DW:=Int×ED
abbrev rU:=Ta×Ta×II
abbrev vQ:=List rU
abbrev DY:=vQ×Int
abbrev lY:=Int×Ts
abbrev dI:=List lY
abbrev vL:=Option dI
abbrev zJ:=Int×dI
abbrev lB:=dI×Int
abbrev OV:=vJ×Bool×lB
abbrev T2e:=OV×iZ
abbrev eZ:=Tt×iO×iP×Int×T2e
abbrev qA:=T2e×Int
abbrev lL:=Option qA
abbrev OZ:=rU×lB
abbrev T2j:=Int×Int×Int×Bool×dI×vJ
abbrev T2k:=Te×Int×T2j
abbrev OW:=lY×Int
abbrev nR:=List OW
abbrev mK:=Ts×Int×Int×Int×vJ×Bool×nR
abbrev zI:=Option (lB⊕dI)
abbrev IM:=Tx×Int
abbrev pC:=Tb×Int
abbrev T2r:=pC⊕Tb
abbrev EC:=Int×Tb
abbrev PF:=nR×Tb
abbrev T2u:=Tb×mK×Int
abbrev T2v:=Int⊕Unit⊕BO
abbrev IR:=Int×Ta
abbrev BR:=List iZ
abbrev pQ:=Option BR
abbrev zG:=List IR
abbrev PQ:=Ta×EC
abbrev sM:=List (lY×Te)
abbrev mC:=sM×Int
abbrev EE:=dI×sM×sM
abbrev BP:=List mK
abbrev JA:=Int×List Bool
abbrev T36:=BP×Int×Tp
abbrev T37:=BP×Tp
abbrev C1:=mU aD aD
abbrev C2:=aJ .i64
abbrev C3:=mU aD C2
abbrev C4:=mU C2 (mU aD (mU C2 C2))
abbrev C5:=mU C2 (mU C2 (mU C2 (mU aD (xN C2))))
abbrev C6:=mU C2 (mU aD (mU (xN aD) (xN C5)))
abbrev C7:=mU aD (mU (xN aD) (xN C6))
abbrev C8:=mU aD (mU aD C4)
abbrev C9:=mU C2 C1
abbrev Ca:=mU C9 C2
abbrev Cb:=mU C9 (xN C2)
abbrev Cc:=mU C1 (mU C2 (mU C2 (mU C2 (mU (mU C2 (mU C2 C2)) (mU Sa (xN Ca))))))
abbrev vS{α:Type}(a:Option Addr)(l:List α)(c:Nat):Value:= .slice a (List.length l) c
abbrev vP(b o:Nat):Value:= .pointer (some ⟨b,o,none⟩)
abbrev vI(x:Int):Value:= .int .i64 x
abbrev vT(s:BA):Value:= .string s
abbrev vB(b:Bool):Value:= .bool b
abbrev eB:BA:=⟨#[]⟩
abbrev aP(b:Nat):Option Addr:=some ⟨b,0,none⟩
abbrev kB(b:Nat)(c:Array Value)(e:Nat):Piece:= .blk b (.cells c e (0,0))
abbrev kR{α:Type}(a:Option Addr)(l:List α)(c e s:Nat):Piece:= .room a (List.length l) c e s
abbrev V1{α0:Type}(p:List α0×Int)(a0:Option Addr)(c0:Nat):Array Value:= #[vS a0 p.1 c0,vI p.2]
abbrev V2(p:BA×BA):Array Value:= #[vT p.1,vT p.2]
abbrev V3(p:Int×BA×Int×Int):Array Value:= #[vI p.1,vT p.2.1,vI p.2.2.1,vI p.2.2.2]
abbrev V4(x0:Int)(x1:BA)(x2:Int)(x3:Int):Array Value:= #[vI x0,vT x1,vI x2,vI x3]
abbrev V5{α0:Type}{α4:Type}{α5:Type}{α6:Type}(p:List α0×Int×Int×Int×List α4×List α5×List α6)(a0:Option Addr)(c0:Nat)(a4:Option Addr)(c4:Nat)(a5:Option Addr)(c5:Nat)(a6:Option Addr)(c6:Nat):Array Value:= #[vS a0 p.1 c0,vI p.2.1,vI p.2.2.1,vI p.2.2.2.1,vS a4 p.2.2.2.2.1 c4,vS a5 p.2.2.2.2.2.1 c5,vS a6 p.2.2.2.2.2.2 c6]
abbrev V6{α0:Type}{α4:Type}{α5:Type}{α6:Type}(a0:Option Addr)(l0:List α0)(c0:Nat)(x1:Int)(x2:Int)(x3:Int)(a4:Option Addr)(l4:List α4)(c4:Nat)(a5:Option Addr)(l5:List α5)(c5:Nat)(a6:Option Addr)(l6:List α6)(c6:Nat):Array Value:= #[vS a0 l0 c0,vI x1,vI x2,vI x3,vS a4 l4 c4,vS a5 l5 c5,vS a6 l6 c6]
abbrev V7{α1:Type}{α2:Type}(p:BA×List α1×List α2)(a1:Option Addr)(c1:Nat)(a2:Option Addr)(c2:Nat):Array Value:= #[vT p.1,vS a1 p.2.1 c1,vS a2 p.2.2 c2]
abbrev V8{α2:Type}{α3:Type}(p:Int×BA×List α2×List α3)(a2:Option Addr)(c2:Nat)(a3:Option Addr)(c3:Nat):Array Value:= #[vI p.1,vT p.2.1,vS a2 p.2.2.1 c2,vS a3 p.2.2.2 c3]
abbrev V9{α4:Type}(p:Int×Int×Int×BA×List α4)(a4:Option Addr)(c4:Nat):Array Value:= #[vI p.1,vI p.2.1,vI p.2.2.1,vT p.2.2.2.1,vS a4 p.2.2.2.2 c4]
abbrev Va{α4:Type}(p:Int×Int×Int×BA×List α4)(a4:Option Addr)(c4:Nat):List Value:=[vI p.1,vI p.2.1,vI p.2.2.1,vT p.2.2.2.1,vS a4 p.2.2.2.2 c4]
abbrev Vb{α1:Type}{α2:Type}(p:BA×List α1×List α2)(a1:Option Addr)(c1:Nat)(a2:Option Addr)(c2:Nat):List Value:=[vT p.1,vS a1 p.2.1 c1,vS a2 p.2.2 c2]
abbrev Vc{α2:Type}{α3:Type}(p:Int×BA×List α2×List α3)(a2:Option Addr)(c2:Nat)(a3:Option Addr)(c3:Nat):List Value:=[vI p.1,vT p.2.1,vS a2 p.2.2.1 c2,vS a3 p.2.2.2 c3]
abbrev Vd{α0:Type}{α1:Type}(p:List α0×List α1)(a0:Option Addr)(c0:Nat)(a1:Option Addr)(c1:Nat):Array Value:= #[vS a0 p.1 c0,vS a1 p.2 c1]
abbrev Ve(p:BA×BA×Int×BA×Int×Int):Array Value:= #[vT p.1,vT p.2.1,vI p.2.2.1,vT p.2.2.2.1,vI p.2.2.2.2.1,vI p.2.2.2.2.2]
abbrev Vf(x0:BA)(x1:BA)(x2:Int)(x3:BA)(x4:Int)(x5:Int):Array Value:= #[vT x0,vT x1,vI x2,vT x3,vI x4,vI x5]
abbrev Vg{α0:Type}{α1:Type}(p:List α0×List α1)(a0:Option Addr)(c0:Nat)(a1:Option Addr)(c1:Nat):List Value:=[vS a0 p.1 c0,vS a1 p.2 c1]
abbrev Vh(p:BA×BA×Int×BA×Int×Int):List Value:=[vT p.1,vT p.2.1,vI p.2.2.1,vT p.2.2.2.1,vI p.2.2.2.2.1,vI p.2.2.2.2.2]
abbrev Vi(p:BA×Int):Array Value:= #[vT p.1,vI p.2]
abbrev Vj(p:Int×BA×BA):Array Value:= #[vI p.1,vT p.2.1,vT p.2.2]
abbrev Vk(p:Int×BA×BA):List Value:=[vI p.1,vT p.2.1,vT p.2.2]
abbrev Vl(x0:Int)(x1:BA)(x2:BA):Array Value:= #[vI x0,vT x1,vT x2]
abbrev Vm{α9:Type}(x0:BA)(x1:BA)(x2:Int)(x3:Int)(x4:Int)(x5:Int)(x6:Int)(x7:Int)(x8:Bool)(a9:Option Addr)(l9:List α9)(c9:Nat):Array Value:= #[vT x0,vT x1,vI x2,vI x3,vI x4,vI x5,vI x6,vI x7,vB x8,vS a9 l9 c9]
abbrev Vn(p:Int×Int×Int):Array Value:= #[vI p.1,vI p.2.1,vI p.2.2]
abbrev Vo{α9:Type}(x0:BA)(x1:BA)(x2:Int)(x3:Int)(x4:Int)(x5:Int)(x6:Int)(x7:Int)(x8:Bool)(a9:Option Addr)(l9:List α9)(c9:Nat):List Value:=[vT x0,vT x1,vI x2,vI x3,vI x4,vI x5,vI x6,vI x7,vB x8,vS a9 l9 c9]
abbrev Vp(x0:Int)(x1:BA)(x2:BA)(x3:Int):Array Value:= #[vI x0,vT x1,vT x2,vI x3]
abbrev ba:BA:=⟨#[97,46,115,114,99]⟩
abbrev bb:BA:=⟨#[98,46,115,114,99]⟩
abbrev bc:BA:=⟨#[100,47,99,46,115,114,99]⟩
abbrev bd:BA:=⟨#[120,46,115,114,99]⟩
abbrev be:BA:=⟨#[97,46,100,97,116]⟩
abbrev bf:BA:=⟨#[100,47,98,46,100,97,116]⟩
abbrev bg:BA:=⟨#[99]⟩
abbrev bh:BA:=⟨#[110]⟩
abbrev bi:BA:=⟨#[109]⟩
abbrev bj:BA:=⟨#[48,49,50,51,52,53,54,55,56,57]⟩
abbrev bk:BA:=⟨#[34,41]⟩
abbrev bl:BA:=⟨#[41]⟩
abbrev bm:BA:=⟨#[43]⟩
abbrev bn:BA:=⟨#[45]⟩
abbrev bo:BA:=⟨#[42]⟩
abbrev bp:BA:=⟨#[47]⟩
abbrev bq:BA:=⟨#[37]⟩
abbrev br:BA:=⟨#[60]⟩
abbrev bs:BA:=⟨#[61,61]⟩
abbrev bu:BA:=⟨#[102,117,110,99]⟩
abbrev bv:BA:=⟨#[34]⟩
abbrev bw:BA:=⟨#[112,97,99,107,97,103,101]⟩
abbrev bx:BA:=⟨#[105,109,112,111,114,116]⟩
abbrev bz:BA:=⟨#[116,101,115,116]⟩
abbrev IN:BA:=⟨#[103,101,110]⟩
abbrev IY:BA:=⟨#[105,102]⟩
abbrev IP:BA:=⟨#[116,104,101,110]⟩
abbrev JE:BA:=⟨#[101,108,115,101]⟩
abbrev IS:BA:=⟨#[114,101,97,100]⟩
abbrev IT:BA:=⟨#[115,105,122,101]⟩
abbrev IL:BA:=⟨#[104,97,115]⟩
abbrev IQ:BA:=⟨#[101,110,118]⟩
abbrev IJ:BA:=⟨#[102,108,105,112]⟩
abbrev zK:BA:=⟨#[32]⟩
abbrev PH:BA:=⟨#[97,98,99,100,101,102,103,104,105,106,107,108,109,110,111,112,113,114,115,116,117,118,119,120,121,122]⟩
abbrev PD:BA:=⟨#[95]⟩
abbrev OY:BA:=⟨#[46]⟩
abbrev PK:BA:=⟨#[9,10,13,32]⟩
abbrev PJ:BA:=⟨#[35]⟩
abbrev PO:BA:=⟨#[59,44,40,41,43,45,42,47,37,60,61]⟩
abbrev P1{X1:Type}{X2:Type}{X3:Type}(m:Mem)(a0:Option Addr)(c0:Nat)(a1:Option Addr)(c1:Nat)(a2:Option Addr)(c2:Nat)(a3:Option Addr)(c3:Nat)(p:(List ((Int)×((BA)×((Int)×(Int)))))×((X3)×((X2)×((X1)×((List (BA))×((List ((Int)×((Int)×((Int)×((BA)×(List (Int)))))))×(List (Int)))))))):Prop:=RepS C4 m a0 c0 p.1/\RepS aD m a1 c1 p.2.2.2.2.1/\RepS C5 m a2 c2 p.2.2.2.2.2.1/\RepS (aJ .i64) m a3 c3 p.2.2.2.2.2.2
abbrev P2(m:Mem)(a0:Option Addr)(c0:Nat)(a1:Option Addr)(c1:Nat)(p:(List (BA))×(List ((Int)×((Int)×((Int)×((BA)×(List (Int)))))))):Prop:=RepS aD m a0 c0 p.1/\RepS C5 m a1 c1 p.2
abbrev P3{X1:Type}{X2:Type}{X3:Type}{X4:Type}(m:Mem)(a0:Option Addr)(c0:Nat)(a1:Option Addr)(c1:Nat)(a2:Option Addr)(c2:Nat)(a3:Option Addr)(c3:Nat)(p:(List ((Int)×((BA)×((Int)×(Int)))))×((X4)×((X3)×((X2)×((List (BA))×((List ((Int)×((Int)×((Int)×((BA)×(List (Int)))))))×((List (Int))×(X1)))))))):Prop:=RepS C4 m a0 c0 p.1/\RepS aD m a1 c1 p.2.2.2.2.1/\RepS C5 m a2 c2 p.2.2.2.2.2.1/\RepS (aJ .i64) m a3 c3 p.2.2.2.2.2.2.1
abbrev P4{X1:Type}{X2:Type}{X3:Type}(m:Mem)(a0:Option Addr)(c0:Nat)(a1:Option Addr)(c1:Nat)(a2:Option Addr)(c2:Nat)(a3:Option Addr)(c3:Nat)(a4:Option Addr)(c4:Nat)(p:(List ((Int)×((BA)×((Int)×(Int)))))×((X3)×((X2)×((X1)×((List (BA))×((List ((Int)×((Int)×((Int)×((BA)×(List (Int)))))))×((List (Int))×(List (BA))))))))):Prop:=RepS C4 m a0 c0 p.1/\RepS aD m a1 c1 p.2.2.2.2.1/\RepS C5 m a2 c2 p.2.2.2.2.2.1/\RepS (aJ .i64) m a3 c3 p.2.2.2.2.2.2.1/\RepS aD m a4 c4 p.2.2.2.2.2.2.2
abbrev P5(m:Mem)(a0:Option Addr)(c0:Nat)(a1:Option Addr)(c1:Nat)(p:(List (BA))×(List ((Int)×((BA)×((List (BA))×(List ((Int)×((Int)×((Int)×((BA)×(List (Int)))))))))))):Prop:=RepS aD m a0 c0 p.1/\RepS C6 m a1 c1 p.2
abbrev P6(m:Mem)(a0:Option Addr)(c0:Nat)(a1:Option Addr)(c1:Nat)(p:(List (BA))×(List ((BA)×((List (BA))×(List ((Int)×((BA)×((List (BA))×(List ((Int)×((Int)×((Int)×((BA)×(List (Int))))))))))))))):Prop:=RepS aD m a0 c0 p.1/\RepS C7 m a1 c1 p.2
abbrev P7{X1:Type}(m:Mem)(a0:Option Addr)(c0:Nat)(a1:Option Addr)(c1:Nat)(a2:Option Addr)(c2:Nat)(a3:Option Addr)(c3:Nat)(p:(List ((BA)×(BA)))×(((List (BA))×(List ((BA)×((List (BA))×(List ((Int)×((BA)×((List (BA))×(List ((Int)×((Int)×((Int)×((BA)×(List (Int)))))))))))))))×((List ((BA)×(Int)))×(X1)))):Prop:=RepS C1 m a0 c0 p.1/\RepS aD m a1 c1 p.2.1.1/\RepS C7 m a2 c2 p.2.1.2/\RepS C3 m a3 c3 p.2.2.1
abbrev P8(m:Mem)(a0:Option Addr)(c0:Nat)(a1:Option Addr)(c1:Nat)(a2:Option Addr)(c2:Nat)(a3:Option Addr)(c3:Nat)(p:(List (BA))×((List ((BA)×((List (BA))×(List ((Int)×((BA)×((List (BA))×(List ((Int)×((Int)×((Int)×((BA)×(List (Int))))))))))))))×((List (BA))×(List ((BA)×((List (BA))×(List ((Int)×((BA)×((List (BA))×(List ((Int)×((Int)×((Int)×((BA)×(List (Int))))))))))))))))):Prop:=RepS aD m a0 c0 p.1/\RepS C7 m a1 c1 p.2.1/\RepS aD m a2 c2 p.2.2.1/\RepS C7 m a3 c3 p.2.2.2
abbrev P9(m:Mem)(a0:Option Addr)(c0:Nat)(a1:Option Addr)(c1:Nat)(a2:Option Addr)(c2:Nat)(p:(List ((Int)×((BA)×(BA))))×((List (((Int)×((BA)×(BA)))×(List (Int))))×(List (((Int)×((BA)×(BA)))×(List (Int)))))):Prop:=RepS C9 m a0 c0 p.1/\RepS Cb m a1 c1 p.2.1/\RepS Cb m a2 c2 p.2.2
abbrev _root_.Go.Dc.St.f1:=@Go.Dc.St.front1
abbrev _root_.Go.Dc.St.f10:=@Go.Dc.St.front10
abbrev _root_.Go.Dc.St.f11:=@Go.Dc.St.front11
abbrev _root_.Go.Dc.St.f12:=@Go.Dc.St.front12
abbrev _root_.Go.Dc.St.f13:=@Go.Dc.St.front13
abbrev _root_.Go.Dc.St.f2:=@Go.Dc.St.front2
abbrev _root_.Go.Dc.St.f3:=@Go.Dc.St.front3
abbrev _root_.Go.Dc.St.f4:=@Go.Dc.St.front4
abbrev _root_.Go.Dc.St.f5:=@Go.Dc.St.front5
abbrev _root_.Go.Dc.St.f6:=@Go.Dc.St.front6
abbrev _root_.Go.Dc.St.f7:=@Go.Dc.St.front7
abbrev _root_.Go.Dc.St.f8:=@Go.Dc.St.front8
abbrev _root_.Go.Dc.St.f9:=@Go.Dc.St.front9
abbrev _root_.Go.Dc.St.h:=@Go.Dc.St.head
abbrev _root_.Go.Dc.St.t:=@Go.Dc.St.tail
abbrev wr(x:Int):Int:=IntKind.wrap .i64 x
abbrev v2:Value:=vS none ([]:Tb) 0
abbrev v6:Value:= .slice none 0 0
abbrev v7:Value:=vS none ([]:Tt) 0
abbrev v8:Value:=vS none ([]:iP) 0
abbrev va:Value:=vS none ([]:qB) 0
abbrev vb:Value:=vS none ([]:Te) 0
abbrev vc:Value:=vS none ([]:dY) 0
abbrev vd:Value:=vS none ([]:xJ) 0
abbrev ve:Value:=vS none ([]:DX) 0
abbrev vf:Value:=vS none ([]:dI) 0
abbrev vg:Value:=vS none ([]:nR) 0
abbrev vh:Value:=vS none ([]:sM) 0
abbrev pZ(x:rU):List Value:=Vh x
abbrev cR(x:lY):List Value:=Vk x
abbrev mJ(x:BA):List Value:=[vT x]
abbrev tB{α β γ δ ε φ:Type}(b:Nat)(a:Option Addr)(a1:Nat)(c1:Option Addr)(a2:Nat)(c2:Option Addr)(a3:Nat)(c3:Option Addr)(c:Nat)(p:List α×(List β×List γ)×List δ×Int×φ)(x y z:Int)(u:Bool)(a':Option Addr)(l:List ε)(c':Nat)(v e d:Int):Piece:=kB b #[vS a p.1 a1,vS c1 p.2.1.1 a2,vS c2 p.2.1.2 a3,vS c3 p.2.2.1 c,.int .u64 p.2.2.2.1,vI x,vI y,vI z,vB u,vS a' l c',vI v,vI e,vI d] 100
abbrev eM{α β γ δ ε φ:Type}(b:Nat)(a:Option Addr)(a1:Nat)(c1:Option Addr)(a2:Nat)(c2:Option Addr)(a3:Nat)(c3:Option Addr)(c:Nat)(p:List α×(List β×List γ)×List δ×Int×φ)(r:(Int×Int×Int)×Bool×List ε×Int)(a':Option Addr)(c':Nat)(e d:Int):Piece:=tB b a a1 c1 a2 c2 a3 c3 c p r.1.1 r.1.2.1 r.1.2.2 r.2.1 a' r.2.2.1 c' r.2.2.2 e d
abbrev nK:Array Value:=V4 0 eB 0 0
abbrev iL:Array Value:=Vf eB eB 0 eB 0 0
abbrev pR:Array Value:=Vl 0 eB eB
end
end Go.Proofs.YtgboehjfofcogaaGreatDoor
