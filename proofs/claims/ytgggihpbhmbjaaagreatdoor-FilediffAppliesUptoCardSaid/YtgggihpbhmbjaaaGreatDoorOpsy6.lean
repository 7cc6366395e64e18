/- The decompiler's rules of single operations: boxes, loads, stores, indexes, slices, strings, results. No condition. -/
import Derived.Test.YtgggihpbhmbjaaaGreatDoorAppendy6
namespace Go.Dc
def cInt (k : IntKind) : Codec Int where
 sz := 1
 pos := Nat.one_pos
 rep _ x cs := cs = [.int k x]
 len := by rintro _ _ _ rfl; rfl
 one := by rintro _ _ _ rfl v hv; simp at hv; subst hv; rfl
 mono := fun _ _ _ _ _ h => h
def cU8 : Codec UInt8 where
 sz := 1
 pos := Nat.one_pos
 rep _ x cs := cs = [.int .u8 (x.toNat : Int)]
 len := by rintro _ _ _ rfl; rfl
 one := by rintro _ _ _ rfl v hv; simp at hv; subst hv; rfl
 mono := fun _ _ _ _ _ h => h
def qHg : Codec Bool where
 sz := 1
 pos := Nat.one_pos
 rep _ x cs := cs = [.bool x]
 len := by rintro _ _ _ rfl; rfl
 one := by rintro _ _ _ rfl v hv; simp at hv; subst hv; rfl
 mono := fun _ _ _ _ _ h => h
def cStr : Codec ByteArray where
 sz := 1
 pos := Nat.one_pos
 rep _ x cs := cs = [.string x]
 len := by rintro _ _ _ rfl; rfl
 one := by rintro _ _ _ rfl v hv; simp at hv; subst hv; rfl
 mono := fun _ _ _ _ _ h => h
def qAi {α β : Type} (a : Codec α) (b : Codec β) : Codec (α × β) where
 sz := a.sz + b.sz
 pos := Nat.lt_of_lt_of_le a.pos (Nat.le_add_right ..)
 rep m x cs := ∃ c1 c2, cs = c1 ++ c2 ∧ a.rep m x.1 c1 ∧ b.rep m x.2 c2
 len := by rintro m x cs ⟨c1, c2, rfl, h1, h2⟩; rw [List.length_append, a.len _ _ _ h1, b.len _ _ _ h2]
 one := by
  rintro m x cs ⟨c1, c2, rfl, h1, h2⟩ v hv
  rcases List.mem_append.1 hv with hv | hv
  ·exact a.one _ _ _ h1 v hv
  ·exact b.one _ _ _ h2 v hv
 mono := by rintro m m' x cs hle ⟨c1, c2, rfl, h1, h2⟩; exact ⟨c1, c2, rfl, a.mono _ _ _ _ hle h1, b.mono _ _ _ _ hle h2⟩
def cSl {α : Type} (c : Codec α) : Codec (List α) where
 sz := 1
 pos := Nat.one_pos
 rep m l cs := ∃ a cap, cs = [.slice a l.length cap] ∧ RepS c m a cap l
 len := by rintro _ _ _ ⟨a, cap, rfl, _⟩; rfl
 one := by rintro _ _ _ ⟨a, cap, rfl, _⟩ v hv; simp at hv; subst hv; rfl
 mono := by rintro m m' x cs hle ⟨a, cap, rfl, h⟩; exact ⟨a, cap, rfl, h.mono hle⟩
theorem cSl_mk {α : Type} {c : Codec α} {m : Mem} {a : Option Addr} {cap : Nat} {l : List α} (h : RepS c m a cap l) : (cSl c).rep m l [.slice a l.length cap] := ⟨a, cap, rfl, h⟩
def RepAll {α : Type} (c : Codec α) (m : Mem) : List α → List Value → Prop
 | [], cs => cs = []
 | x :: l, cs => ∃ c1 c2, cs = c1 ++ c2 ∧ c.rep m x c1 ∧ RepAll c m l c2
theorem RepAll.len {α : Type} {c : Codec α} {m : Mem} : ∀ {l : List α} {cs : List Value}, RepAll c m l cs → cs.length = l.length * c.sz
 | [], cs, h => by simp [RepAll] at h; simp [h]
 | x :: l, cs, h => by
  obtain ⟨c1, c2, rfl, h1, h2⟩ := h
  rw [List.length_append, c.len _ _ _ h1, h2.len, List.length_cons, Nat.add_mul, Nat.one_mul, Nat.add_comm]
theorem RepAll.rep {α : Type} {c : Codec α} {m : Mem} : ∀ {l : List α} {cs : List Value}, RepAll c m l cs → ∀ i x, l[i]? = some x → c.rep m x ((cs.drop (i * c.sz)).take c.sz)
 | [], _, _ => by simp
 | y :: l, cs, h => by
  obtain ⟨c1, c2, rfl, h1, h2⟩ := h
  intro i x hx
  have hl := c.len _ _ _ h1
  cases i with
  | zero => simp at hx; subst hx; simp [← hl]; exact h1
  | succ i =>
   have e : (c1 ++ c2).drop ((i + 1) * c.sz) = c2.drop (i * c.sz) := by
    rw [List.drop_append, List.drop_eq_nil_of_le (by rw [hl, Nat.add_mul]; omega), List.nil_append, hl, Nat.add_mul, Nat.one_mul, Nat.add_sub_cancel]
   rw [e]; exact h2.rep i x (by simpa using hx)
def loadV (P : Program) (t : TypeId) (cs : List Value) : Option Value :=
 match P.underlying t with
 | some (.struct _) | some (.array _ _) => match P.info? t with
  | some i => bif Nat.ble i.size cs.length then some (.agg (cs.take i.size).toArray) else none
  | none => none
 | some _ => cs.head?
 | none => none
def isAggD : TypeDesc → Bool
 | .struct _ => true
 | .array _ _ => true
 | _ => false
theorem qKn {P : Program} {w : World} {t : TypeId} {b o : Nat} {cs : List Value} {v : Value} (hc : ∀ j u, cs[j]? = some u → w.cell? ⟨b, o + j, none⟩ = some u) (h : loadV P t cs = some v) :
  (loadVar t ⟨b, o, none⟩).run P w = .ok v w := by
 have agg : ∀ d, P.underlying t = some d → (isAgg t).run P w = .ok (isAggD d) w := by
  intro d hd; unfold isAgg; cases d <;> simp [run_underlying hd, isAggD]
 have big : ∀ d, P.underlying t = some d → isAggD d = true → (match P.info? t with
  | some i => bif Nat.ble i.size cs.length then some (Value.agg (cs.take i.size).toArray) else none
  | none => none) = some v → (loadVar t ⟨b, o, none⟩).run P w = .ok v w := by
  intro d hd hb h
  cases hi : P.info? t with
  | none => simp [hi] at h
  | some i =>
   simp only [hi] at h
   cases hle : Nat.ble i.size cs.length with
   | false => simp [hle] at h
   | true =>
    simp [hle] at h
    subst h
    have hle' := Nat.le_of_ble_eq_true hle
    have hl := run_loadCells_list (P := P) w ⟨b, o, none⟩ (cs.take i.size) (fun j u hu => by
     rw [qLu]
     rw [List.getElem?_take] at hu
     split at hu
     ·exact hc j u hu
     ·cases hu)
    have : (cs.take i.size).length = i.size := by simp; omega
    rw [this] at hl
    have ha := agg d hd
    rw [hb] at ha
    simp [loadVar, ha, sizeOf, typeInfo, hi, hl]
 unfold loadV at h
 split at h
 ·rename_i hd; exact big _ hd rfl h
 ·rename_i hd; exact big _ hd rfl h
 ·rename_i d hn1 hn2 hd
  have ha := agg d hd
  have hf : isAggD d = false := by
   cases d <;> first | rfl | exact (hn1 _ rfl).elim | exact (hn2 _ _ rfl).elim
  rw [hf] at ha
  have hh : cs[0]? = some v := by rw [List.head?_eq_getElem?] at h; exact h
  have := hc 0 v hh
  simp only [Nat.add_zero] at this
  simp [loadVar, ha, this]
 ·cases h
section
variable {P : Program} {n : Fr} {ops : Array Oper} {Q : Exit → Act → World → Prop} {i d : Nat} {L : Env} {w : World} {m : Mem} {own : List Piece} {N : Env → World → Prop}
theorem qBp {L : Env} {x : Operand} {v : Value} (h : evL L x = some v) : evD L x = v := by simp [evD, h]
theorem qAk {t : TypeId} {x : Operand} {b o : Nat} {cs : List Value} (v : Value) (ho : opAt ops L i = some (some d, .load t x)) (hd : Nat.blt d n = true)
  (hx : evL L x = some (.pointer (some ⟨b, o, none⟩))) (hst : St m own w) (hr : MRow m b o cs) (hv : loadV P t cs = some v)
  (h : N ((d, v) :: L) w) : One P n ops Q i N L w := by
 refine qFb ho hd (fun q hq => ?_) h
 have hl := qKn (P := P) (w := w) (t := t) (b := b) (o := o) (cs := cs) (v := v) (fun j u hu => hst.inv.cell (hr j u hu)) hv
 simp [execOp, hq, Instr.loadAt, qBp hx, Instr.sureAddr, hl]
theorem qAf {t e : TypeId} {x : Operand} {b o : Nat} {c : Array Value} {f : Nat × Nat} (v : Value) (ho : opAt ops L i = some (some d, .load t x)) (hd : Nat.blt d n = true)
  (hx : evL L x = some (.pointer (some ⟨b, o, none⟩))) (hp : Piece.holds m w (.blk b (.cells c e f))) (hv : loadV P t (c.toList.drop o) = some v)
  (h : N ((d, v) :: L) w) : One P n ops Q i N L w := by
 refine qFb ho hd (fun q hq => ?_) h
 have hb := hp.1
 have hl := qKn (P := P) (w := w) (t := t) (b := b) (o := o) (cs := c.toList.drop o) (v := v) (fun j u hu => by
  rw [List.getElem?_drop] at hu
  simp only [World.cell?, hb]
  simpa using hu) hv
 simp [execOp, hq, Instr.loadAt, qBp hx, Instr.sureAddr, hl]
def allOne : List Value → Bool
 | [] => true
 | v :: l => v.oneCell' && allOne l
theorem allOne_mem {l : List Value} (h : allOne l = true) : ∀ v ∈ l, v.oneCell' = true := by
 induction l with
 | nil => simp
 | cons u l ih =>
  simp only [allOne, Bool.and_eq_true] at h
  intro v hv
  rcases List.mem_cons.1 hv with rfl | hv
  ·exact h.1
  ·exact ih h.2 v hv
def storeOK (P : Program) (t : TypeId) (v : Value) (o n : Nat) : Bool :=
 match P.info? t with
 | some i => Nat.beq v.cells.size i.size && Nat.ble (o + v.cells.size) n && allOne v.cells.toList
 | none => false
theorem qBa {t e : TypeId} {x y : Operand} {b o : Nat} {c c' : Array Value} {v : Value} (ho : opAt ops L i = some (none, .store t x y))
  (hx : evL L x = some (.pointer (some ⟨b, o, none⟩))) (hy : evL L y = some v) (hst : St m (.blk b (.cells c e (0, 0)) :: own) w) (hok : storeOK P t v o c.size = true)
  (hc' : (c.toList.take o ++ v.cells.toList ++ c.toList.drop (o + v.cells.toList.length)).toArray = c')
  (h : ∀ w', St m (.blk b (.cells c' e (0, 0)) :: own) w' → N L w') : One P n ops Q i N L w := by
 unfold storeOK at hok
 cases hi : P.info? t with
 | none => simp [hi] at hok
 | some inf =>
  simp only [hi, Bool.and_eq_true] at hok
  obtain ⟨⟨h1, h2⟩, h3⟩ := hok
  have h1' := Nat.eq_of_beq_eq_true h1
  have h2' := Nat.le_of_ble_eq_true h2
  have hrun := run_storeCells_at P b o e v.cells.toList 0 c w hst.head.1 (by simpa using h2') (allOne_mem h3)
  simp only [Nat.add_zero] at hrun
  rw [hc'] at hrun
  refine qLc ho (fun q hq => ?_) (h (w.setRow b c') (hst.set ⟨⟨rfl, rfl⟩, rfl, dle⟩ (setRow_heap w b c c' e _ hst.head.1) (fun k _ hk => setRow_other w b k _ hk)))
  simp [execOp, hq, Instr.storeAt, qBp hx, qBp hy, Instr.sureAddr, storeVar, sizeOf, typeInfo, hi, h1', hrun]
theorem qJc {e : TypeId} {x : Operand} (v : Value) (ho : opAt ops L i = some (some d, .box e x)) (hd : Nat.blt d n = true) (hx : evL L x = some v) (hst : St m own w)
  (h : ∀ b w', St m (.blk b (.cells v.cells e (0, 0)) :: own) w' → N ((d, .pointer (some ⟨b, 0, none⟩)) :: L) w') : One P n ops Q i N L w := by
 refine qFb (w' := w.alloc (.cells v.cells e)) ho hd (fun q hq => ?_) (h w.heap.size _ (hst.alloc ⟨⟨rfl, rfl⟩, rfl, dle⟩ rfl))
 simp [execOp, hq, Instr.box, qBp hx, newVar, newRow]
theorem St.settle {b : Nat} {c : Array Value} {e : TypeId} {f : Nat × Nat} (h : St m (.blk b (.cells c e f) :: own) w) : ∃ m', m.le m' ∧ St m' own w ∧ MRow m' b 0 c.toList := by
 obtain ⟨m', h1, h2, h3, _⟩ := St.know (cs := c.toList) h.tail (h.head_ne rfl) h.head.1 (List.take_of_length_le (Nat.le_refl _)) (fun o v hv => by rw [h.head.2.1 o] at hv; cases hv)
 exact ⟨m', h1, h2, h3⟩
theorem qDk {e : TypeId} {x : Operand} (v : Value) (ho : opAt ops L i = some (some d, .box e x)) (hd : Nat.blt d n = true) (hx : evL L x = some v) (hst : St m own w)
  (h : ∀ b m' w', m.le m' → St m' own w' → MRow m' b 0 v.cells.toList → N ((d, .pointer (some ⟨b, 0, none⟩)) :: L) w') : One P n ops Q i N L w := by
 refine qJc v ho hd hx hst (fun b w' hs => ?_)
 obtain ⟨m', h1, h2, h3⟩ := hs.settle
 exact h b m' w' h1 h2 h3
def zeroOf (P : Program) (e : TypeId) : Option Value := (P.info? e).bind (·.zero)
theorem qBv {e : TypeId} (v : Value) (ho : opAt ops L i = some (some d, .alloc e)) (hd : Nat.blt d n = true) (hz : zeroOf P e = some v) (hst : St m own w)
  (h : ∀ b w', St m (.blk b (.cells v.cells e (0, 0)) :: own) w' → N ((d, .pointer (some ⟨b, 0, none⟩)) :: L) w') : One P n ops Q i N L w := by
 obtain ⟨inf, hi, hz'⟩ := Option.bind_eq_some_iff.1 hz
 refine qFb (w' := w.alloc (.cells v.cells e)) ho hd (fun q hq => ?_) (h w.heap.size _ (hst.alloc ⟨⟨rfl, rfl⟩, rfl, dle⟩ rfl))
 simp [execOp, hq, Instr.alloc, zeroValue, typeInfo, hi, hz', newVar, newRow]
def idx {α : Type} (l : List α) (i : Int) : Option α := if 0 ≤ i then l[i.toNat]? else none
def qHx (P : Program) (t : TypeId) : Option (TypeId × Nat) :=
 match P.underlying t with
 | some (.slice e) => (P.info? e).map fun i => (e, i.size)
 | _ => none
theorem qHf {t e sz : Nat} (h : qHx P t = some (e, sz)) : P.underlying t = some (.slice e) ∧ ∃ inf, P.info? e = some inf ∧ inf.size = sz := by
 unfold qHx at h
 split at h
 ·rename_i e' he
  cases hi : P.info? e' with
  | none => simp [hi] at h
  | some inf => simp [hi] at h; obtain ⟨rfl, h2⟩ := h; exact ⟨he, inf, hi, h2⟩
 ·cases h
theorem qCa {α : Type} {t e : TypeId} {x y : Operand} (c : Codec α) {a : Option Addr} {cap : Nat} {l : List α} {k : IntKind} {ix : Int} {z : α} (ho : opAt ops L i = some (some d, .indexAddr t x y)) (hd : Nat.blt d n = true)
  (hx : evL L x = some (.slice a l.length cap)) (hy : evL L y = some (.int k ix)) (hi : qHx P t = some (e, c.sz)) (hr : RepS c m a cap l) (hz : idx l ix = some z)
  (h : ∀ b o cs, c.rep m z cs → MRow m b o cs → N ((d, .pointer (some ⟨b, o, none⟩)) :: L) w) : One P n ops Q i N L w := by
 obtain ⟨h1, inf, h2, h3⟩ := qHf hi
 unfold idx at hz
 split at hz
 ·rename_i h0
  have hlt : ix.toNat < l.length := (List.getElem?_eq_some_iff.1 hz).1
  cases a with
  | none => obtain ⟨rfl, _⟩ := hr.none_nil; simp at hlt
  | some p =>
   obtain ⟨cs, hc, hm⟩ := hr.2.2.2 _ _ hz
   refine qFb ho hd (fun q hq => ?_) (h p.block (p.off + ix.toNat * c.sz) cs hc hm)
   have hlt' : ix < (l.length : Int) := by omega
   simp [execOp, hq, Instr.indexAt, qBp hx, qBp hy, asIntOf, run_underlying h1, h0, hlt', sizeOf, typeInfo, h2, h3, qMp (hr.spot (fun e => by rw [e] at hlt; simp at hlt))]
 ·cases hz
theorem qGx {α : Type} {t u e by_ : Nat} {x y : Operand} (c : Codec α) {a : Option Addr} {cap : Nat} {l k r : List α} {v : Value}
  (ho : opAt ops L i = some (some d, .call { callee := .builtin .append, args := #[x, y], argTypes := #[t, u] })) (hd : Nat.blt d n = true)
  (hx : evL L x = some (.slice a l.length cap)) (hy : evL L y = some v) (hst : St m (.room a l.length cap e c.sz :: own) w) (hi : qLk P t = some (e, c.sz, by_, c.sz)) (hu : srcOK P u e)
  (hr : RepS c m a cap l) (hg : Gives P c m v k) (hs : qEo by_ l k = some r)
  (h : ∀ a' cap' m' w', m.le m' → St m' (.room a' r.length cap' e c.sz :: own) w' → RepS c m' a' cap' r → N ((d, .slice a' r.length cap') :: L) w') : One P n ops Q i N L w := by
 refine qLb (v := undef) (w' := w) ho hd (fun o h3 => ?_)
 obtain ⟨a', cap', m', w', hrun, hle, hst', hrep⟩ := run_appendS (P := P) (ty := o.type) hi hu hst hr hg hs
 refine ⟨_, w', ?_, h a' cap' m' w' hle hst' hrep⟩
 simp [execOp, h3, resolve, invoke, builtin, qBp hx, qBp hy, hrun]
theorem St.nilroom (h : St m own w) (e sz : Nat) : St m (.room none 0 0 e sz :: own) w := h.cons ⟨rfl, rfl⟩ (by simp [Piece.block])
theorem qAy {α : Type} {t e : TypeId} {len : Nat} {parts : Array (Nat × Operand)} (c : Codec α) {xs : List α} (cs : List Value) (ho : opAt ops L i = some (some d, .buildSlice t len parts)) (hd : Nat.blt d n = true)
  (hrun : ∀ w : World, (Instr.buildSlice t len (parts.map fun p => (p.1, evD L p.2))).run P w = .ok (.slice (some ⟨w.heap.size, 0, none⟩) len len) (w.alloc (.cells cs.toArray e)))
  (hlen : len = xs.length) (hmax : Nat.ble len maxLen = true) (hst : St m own w) (hr : RepAll c m xs cs)
  (h : ∀ b m' w', m.le m' → St m' (.room (some ⟨b, 0, none⟩) xs.length len e c.sz :: own) w' → RepS c m' (some ⟨b, 0, none⟩) len xs → N ((d, .slice (some ⟨b, 0, none⟩) xs.length len) :: L) w') : One P n ops Q i N L w := by
 subst hlen
 have hal := hst.alloc (w' := w.alloc (.cells cs.toArray e)) ⟨⟨rfl, rfl⟩, rfl, dle⟩ rfl
 have hfresh := hst.fresh_free
 obtain ⟨m', h1, h2, h3, h4, h5, _⟩ := St.know (cs := cs) hal.tail (hal.head_ne rfl) hal.head.1 (by simp) (fun o v hv => by rw [hfresh.1 o] at hv; cases hv)
 have hmx := Nat.le_of_ble_eq_true hmax
 refine qFb ho hd (fun q hq => ?_) (h w.heap.size m' _ h1 (h2.cons ⟨rfl, rfl, Nat.le_refl _, hmx, ⟨cs.toArray, hal.head.1, by simp [hr.len]⟩, ?_, ?_⟩ ?_) (RepS.of_cells (Nat.le_refl _) hmx (fun j x hx => c.mono _ _ _ _ h1 (hr.rep j x hx)) h3))
 ·simp [execOp, hq, hrun w]
 ·intro o ho'; exact h4 o (by rw [hr.len]; exact ho')
 ·rw [h5]; exact hfresh.2
 ·intro b hb; simp only [Piece.block, Option.map_some, Option.some.injEq] at hb; subst hb; exact hal.head_ne rfl
def buildCells (P : Program) (t : TypeId) (len : Nat) (parts : List (Nat × Value)) : Option (TypeId × List Value) :=
 match P.underlying t with
 | some (.slice e) => match P.info? e with
  | some inf => bif Nat.ble (len * inf.size) (2 ^ 24) && Nat.blt 0 (len * inf.size) then
    (match inf.zero with
    | some z => (Instr.fill (fun i => some (i * inf.size, inf.size)) ((Array.range (len * inf.size)).map (z.cells[· % z.cells.size]!)) parts).map fun a => (e, a.toList)
    | none => none) else none
  | none => none
 | _ => none
theorem qAz {t e : TypeId} {len : Nat} {parts : Array (Nat × Value)} {cs : List Value} (h : buildCells P t len parts.toList = some (e, cs)) (w : World) :
  (Instr.buildSlice t len parts).run P w = .ok (.slice (some ⟨w.heap.size, 0, none⟩) len len) (w.alloc (.cells cs.toArray e)) := by
 unfold buildCells at h
 split at h
 ·rename_i e' he
  split at h
  ·rename_i inf hi
   cases hb : (Nat.ble (len * inf.size) (2 ^ 24) && Nat.blt 0 (len * inf.size)) with
   | false => simp [hb] at h
   | true =>
    simp only [hb, cond_true] at h
    simp only [Bool.and_eq_true] at hb
    have h1 := Nat.le_of_ble_eq_true hb.1
    have h2 : 0 < len * inf.size := by simpa [Nat.blt_eq] using hb.2
    have h1' : ¬ (16777216 < len * inf.size) := by omega
    have h2' : ¬ (len * inf.size = 0) := by omega
    split at h
    ·rename_i z hz
     obtain ⟨a, ha, hp⟩ := Option.map_eq_some_iff.1 h
     simp only [Prod.mk.injEq] at hp
     obtain ⟨rfl, rfl⟩ := hp
     simp [Instr.buildSlice, run_underlying he, sizeOf, typeInfo, zeroValue, hi, hz, h1', ha, newRow]
     intro h0; exact absurd h0 h2'
    ·cases h
  ·cases h
 ·cases h
def subS {α : Type} (l : List α) (lo hi : Int) : Option (List α) := if 0 ≤ lo ∧ lo ≤ hi ∧ hi ≤ l.length then some ((l.take hi.toNat).drop lo.toNat) else none
theorem RepS.sub {α : Type} {c : Codec α} {a : Option Addr} {cap : Nat} {l : List α} (h : RepS c m a cap l) {lo hi : Nat} (h1 : lo ≤ hi) (h2 : hi ≤ l.length) :
  RepS c m (if cap = lo then a else a.map (·.add (lo * c.sz))) (cap - lo) ((l.take hi).drop lo) ∧ ((l.take hi).drop lo).length = hi - lo := by
 have hlen : ((l.take hi).drop lo).length = hi - lo := by simp; omega
 refine ⟨⟨by rw [hlen]; have := h.1; omega, by have := h.2.1; omega, ?_⟩, hlen⟩
 cases a with
 | none =>
  obtain ⟨rfl, hc⟩ := h.none_nil
  have : (if cap = lo then (none : Option Addr) else (none : Option Addr).map (·.add (lo * c.sz))) = none := by split <;> rfl
  rw [this]
  simp [hc]
 | some p =>
  by_cases hl : l = []
  ·subst hl
   have h0 : lo = 0 := by simp at h2; omega
   subst h0
   simp [Addr.add]
  have hs := h.spot hl
  by_cases hc : cap = lo
  ·rw [if_pos hc]
   refine ⟨.inl hs, fun j x hx => ?_⟩
   have hj := (List.getElem?_eq_some_iff.1 hx).1
   have := h.1
   omega
  ·rw [if_neg hc]
   simp only [Option.map_some]
   rw [qMp hs]
   refine ⟨.inl rfl, fun j x hx => ?_⟩
   rw [List.getElem?_drop, List.getElem?_take] at hx
   split at hx
   ·obtain ⟨cs, hr, hm⟩ := h.2.2.2 _ _ hx
    refine ⟨cs, hr, ?_⟩
    rw [Nat.add_assoc, ← Nat.add_mul]; exact hm
   ·cases hx
theorem run_slice {α : Type} {t e : TypeId} {x : Operand} {lo hi : Option Operand} (c : Codec α) {a : Option Addr} {cap : Nat} {l r : List α} {li hix : Int}
  (hx : evL L x = some (.slice a l.length cap)) (hI : qHx P t = some (e, c.sz)) (hr : RepS c m a cap l)
  (hlo : (lo = none ∧ li = 0) ∨ ∃ y k, lo = some y ∧ evL L y = some (.int k li)) (hhi : (hi = none ∧ hix = l.length) ∨ ∃ y k, hi = some y ∧ evL L y = some (.int k hix)) (hs : subS l li hix = some r) :
  ∃ v, (∀ o : Oper, o.op = .slice t x lo hi none → ∀ w : World, (execOp (evD L) o).run P w = .ok (.value v) w) ∧ ∃ a' cap', v = .slice a' r.length cap' ∧ RepS c m a' cap' r := by
 obtain ⟨h1, inf, h2, h3⟩ := qHf hI
 unfold subS at hs
 split at hs
 ·rename_i hb
  obtain ⟨b1, b2, b3⟩ := hb
  simp only [Option.some.injEq] at hs
  have hsub := hr.sub (lo := li.toNat) (hi := hix.toNat) (by omega) (by omega)
  rw [hs] at hsub
  refine ⟨_, fun q hq w => ?_, _, _, rfl, hsub.1⟩
  have hcap : hix ≤ (cap : Int) := by have := hr.1; omega
  have hpos : 0 ≤ hix := by omega
  have hll : li ≤ max hix 0 := by omega
  rcases hlo with ⟨rfl, rfl⟩ | ⟨y, k, rfl, hy⟩ <;> rcases hhi with ⟨rfl, rfl⟩ | ⟨y', k', rfl, hy'⟩
  ·simp [execOp, hq, Instr.sliceAt, Instr.slice, Instr.sliceBounds, run_underlying h1, qBp hx, sizeOf, typeInfo, h2, h3] at *
   exact hsub.2.symm
  ·simp [execOp, hq, Instr.sliceAt, Instr.slice, Instr.sliceBounds, Instr.sliceBound, asIntOf, run_underlying h1, qBp hx, qBp hy', sizeOf, typeInfo, h2, h3, hpos, hcap] at *
   exact hsub.2.symm
  ·have : li ≤ (l.length : Int) := b2
   simp [execOp, hq, Instr.sliceAt, Instr.slice, Instr.sliceBounds, Instr.sliceBound, asIntOf, run_underlying h1, qBp hx, qBp hy, sizeOf, typeInfo, h2, h3, b1, this] at *
   exact hsub.2.symm
  ·simp [execOp, hq, Instr.sliceAt, Instr.slice, Instr.sliceBounds, Instr.sliceBound, asIntOf, run_underlying h1, qBp hx, qBp hy, qBp hy', sizeOf, typeInfo, h2, h3, hpos, hcap, b1, hll] at *
   exact hsub.2.symm
 ·cases hs
theorem One_slice {α : Type} {t e : TypeId} {x : Operand} {lo hi : Option Operand} (c : Codec α) {a : Option Addr} {cap : Nat} {l r : List α} {li hix : Int}
  (ho : opAt ops L i = some (some d, .slice t x lo hi none)) (hd : Nat.blt d n = true) (hx : evL L x = some (.slice a l.length cap)) (hI : qHx P t = some (e, c.sz)) (hr : RepS c m a cap l)
  (hlo : (lo = none ∧ li = 0) ∨ ∃ y k, lo = some y ∧ evL L y = some (.int k li)) (hhi : (hi = none ∧ hix = l.length) ∨ ∃ y k, hi = some y ∧ evL L y = some (.int k hix)) (hs : subS l li hix = some r)
  (h : ∀ a' cap', RepS c m a' cap' r → N ((d, .slice a' r.length cap') :: L) w) : One P n ops Q i N L w := by
 obtain ⟨v, hv, a', cap', rfl, hrep⟩ := run_slice (P := P) (L := L) c hx hI hr hlo hhi hs
 exact qFb ho hd (fun q hq => hv q hq w) (h a' cap' hrep)
end
end Go.Dc
