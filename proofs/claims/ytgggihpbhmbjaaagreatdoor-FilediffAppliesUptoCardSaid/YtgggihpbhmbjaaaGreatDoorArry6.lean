/- The decompiler's rules of arrays whose elements are structs of plain values, and that are written; results of calls taken as such arrays. No condition. -/
import Derived.Test.YtgggihpbhmbjaaaGreatDoorExty6
namespace Go.Dc
def ab (a : Option Addr) : Nat := match a with | some p => p.block | none => 0
def opc (a : Option Addr) (cs : Array Value) (e : TypeId) : Piece := match a with
 | none => .room none 0 0 0 0
 | some p => .blk p.block (.cells cs e (0, 0))
def qAr {α : Type} (f : α → List Value) (l : List α) (T : List Value) : Array Value := (l.flatMap f ++ T).toArray
def OAS (a : Option Addr) (n cap k : Nat) (T : List Value) : Prop :=
 n ≤ cap ∧ cap ≤ maxLen ∧ match a with
  | none => cap = 0
  | some p => p = ⟨p.block, 0, none⟩ ∧ n * k + T.length = cap * k
theorem OAS.cast {α : Type} {a : Option Addr} {nn cap k : Nat} {T : List Value} {l : List α} (h : OAS a nn cap k T) (hn : List.length l = nn) : OAS a (List.length l) cap k T := by rw [hn]; exact h
theorem OAS.nil (k : Nat) : OAS none 0 0 k [] := ⟨Nat.le_refl _, Nat.zero_le _, rfl⟩
theorem qIz {α : Type} {f : α → List Value} {k : Nat} (hf : ∀ x, (f x).length = k) : ∀ l : List α, (l.flatMap f).length = l.length * k
 | [] => by simp
 | x :: l => by simp [List.flatMap_cons, hf, qIz hf l, Nat.add_mul, Nat.add_comm]
theorem qNe {α : Type} {f : α → List Value} {k : Nat} (hf : ∀ x, (f x).length = k) : ∀ (l : List α) (i : Nat) (z : α) (j : Nat), l[i]? = some z → j < k → (l.flatMap f)[i * k + j]? = (f z)[j]?
 | [], i, z, j, h, _ => by simp at h
 | x :: l, 0, z, j, h, hj => by
  simp at h; subst h
  simp [List.flatMap_cons, List.getElem?_append, hf, hj]
 | x :: l, i + 1, z, j, h, hj => by
  have := qNe hf l i z j (by simpa using h) hj
  rw [List.flatMap_cons, List.getElem?_append_right (by rw [hf, Nat.add_mul]; omega), hf]
  have e : (i + 1) * k + j - k = i * k + j := by rw [Nat.add_mul]; omega
  rw [e]; exact this
theorem flat_set {α : Type} {f : α → List Value} {k : Nat} (hf : ∀ x, (f x).length = k) : ∀ (l : List α) (i : Nat) (z u : α), l[i]? = some z →
  (l.set i u).flatMap f = (l.flatMap f).take (i * k) ++ f u ++ (l.flatMap f).drop (i * k + k)
 | [], i, z, u, h => by simp at h
 | x :: l, 0, z, u, h => by
  rw [List.set_cons_zero, List.flatMap_cons, List.flatMap_cons, Nat.zero_mul, Nat.zero_add, List.take_zero, List.nil_append]
  rw [List.drop_append, List.drop_eq_nil_of_le (by rw [hf]; exact Nat.le_refl _), hf]
  simp
 | x :: l, i + 1, z, u, h => by
  have := flat_set hf l i z u (by simpa using h)
  simp only [List.set_cons_succ, List.flatMap_cons, this]
  have e1 : (i + 1) * k = (f x).length + i * k := by rw [Nat.add_mul, hf]; omega
  have e2 : (i + 1) * k + k = (f x).length + (i * k + k) := by omega
  rw [e2, e1, List.take_length_add_append, List.drop_length_add_append]
  simp [List.append_assoc]
section
variable {P : Program} {n : Fr} {ops : Array Oper} {Q : Exit → Act → World → Prop} {i d : Nat} {L : Env} {w : World} {m : Mem} {own : List Piece} {N : Env → World → Prop}
variable {α : Type} {f : α → List Value}
theorem OAS.some {a : Option Addr} {nn cap k : Nat} {T : List Value} (h : OAS a nn cap k T) {l : List α} (hn : List.length l = nn) {j : Nat} (hj : j < l.length) : a = Option.some ⟨ab a, 0, none⟩ := by
 obtain ⟨h1, h2, h3⟩ := h
 cases a with
 | none => simp only at h3; omega
 | some p => simp only at h3; exact congrArg Option.some h3.1
theorem opc_some {a : Option Addr} {b : Nat} {cs : Array Value} {e : TypeId} (h : a = some ⟨b, 0, none⟩) : opc a cs e = .blk b (.cells cs e (0, 0)) := by subst h; rfl
theorem idx_lt {l : List α} {ix : Int} {z : α} (h : idx l ix = some z) : 0 ≤ ix ∧ l[ix.toNat]? = some z ∧ ix.toNat < l.length := by
 unfold idx at h
 split at h
 ·rename_i h0; exact ⟨h0, h, (List.getElem?_eq_some_iff.1 h).1⟩
 ·cases h
theorem qMy {t e : TypeId} {x y : Operand} {a : Option Addr} {nn cc k : Nat} {T : List Value} {l : List α} {kd : IntKind} {ix : Int} {z : α} (ho : opAt ops L i = some (some d, .indexAddr t x y)) (hd : Nat.blt d n = true)
  (hx : evL L x = some (.slice a nn cc)) (hy : evL L y = some (.int kd ix)) (hi : qHx P t = some (e, k)) (hs : OAS a nn cc k T) (hn : List.length l = nn) (hz : idx l ix = some z)
  (h : N ((d, .pointer (some ⟨ab a, ix.toNat * k, none⟩)) :: L) w) : One P n ops Q i N L w := by
 obtain ⟨h1, inf, h2, h3⟩ := qHf hi
 obtain ⟨h0, _, hlt⟩ := idx_lt hz
 have ha := hs.some hn hlt
 refine qFb ho hd (fun q hq => ?_) h
 have hlt' : ix < (nn : Int) := by omega
 rw [ha] at hx
 simp [execOp, hq, Instr.indexAt, qBp hx, qBp hy, asIntOf, run_underlying h1, h0, hlt', sizeOf, typeInfo, h2, h3, qLu]
theorem One_arrLoadM {t e : TypeId} {x : Operand} {a : Option Addr} {nn cc k : Nat} {l : List α} {T : List Value} {ix : Int} {z : α} {o : Nat} {v : Value} (hf : ∀ x, (f x).length = k) (po : Nat) (hpo : po = ix.toNat * k + o) (ho : opAt ops L i = some (some d, .load t x)) (hd : Nat.blt d n = true)
  (hx : evL L x = some (.pointer (some ⟨ab a, po, none⟩))) (hp : Piece.holds m w (opc a (qAr f l T) e)) (hs : OAS a nn cc k T) (hn : List.length l = nn) (hz : idx l ix = some z) (hv : loadV P t ((f z).drop o) = some v)
  (h : N ((d, v) :: L) w) : One P n ops Q i N L w := by
 obtain ⟨h0, hz', hlt⟩ := idx_lt hz
 have ha := hs.some hn hlt
 subst hpo
 refine qFb ho hd (fun q hq => ?_) h
 rw [opc_some ha] at hp
 have hb := hp.1
 have hl := qKn (P := P) (w := w) (t := t) (b := ab a) (o := ix.toNat * k + o) (cs := (f z).drop o) (v := v) (fun j u hu => by
  rw [List.getElem?_drop] at hu
  have hjk : o + j < k := by rw [← hf z]; exact (List.getElem?_eq_some_iff.1 hu).1
  have hg := qNe hf l ix.toNat z (o + j) hz' hjk
  rw [hu] at hg
  have hlt2 := (List.getElem?_eq_some_iff.1 hg).1
  simp only [World.cell?, hb, qAr, List.getElem?_toArray]
  have e : ix.toNat * k + o + j = ix.toNat * k + (o + j) := by omega
  rw [e, List.getElem?_append_left hlt2]
  simpa using hg) hv
 simp [execOp, hq, Instr.loadAt, qBp hx, Instr.sureAddr, hl]
theorem qLe {t e : TypeId} {x y : Operand} {a : Option Addr} {nn cc k : Nat} {l : List α} {T : List Value} {ix : Int} {z u : α} {o : Nat} {v : Value} (hf : ∀ x, (f x).length = k) (po : Nat) (hpo : po = ix.toNat * k + o) (ho : opAt ops L i = some (none, .store t x y))
  (hx : evL L x = some (.pointer (some ⟨ab a, po, none⟩))) (hy : evL L y = some v) (st : St m (opc a (qAr f l T) e :: own) w) (hs : OAS a nn cc k T) (hn : List.length l = nn) (hz : idx l ix = some z) (hok : storeOK P t v o k = true)
  (hu : f u = (f z).take o ++ v.cells.toList ++ (f z).drop (o + v.cells.toList.length))
  (h : ∀ w', St m (opc a (qAr f (l.set ix.toNat u) T) e :: own) w' → N L w') : One P n ops Q i N L w := by
 obtain ⟨h0, hz', hlt⟩ := idx_lt hz
 have ha := hs.some hn hlt
 subst hpo
 rw [opc_some ha] at st
 have hfl := qIz hf l
 unfold storeOK at hok
 cases hi : P.info? t with
 | none => simp [hi] at hok
 | some inf =>
  simp only [hi, Bool.and_eq_true] at hok
  obtain ⟨⟨h1, h2⟩, h3⟩ := hok
  have h1' := Nat.eq_of_beq_eq_true h1
  have h2' := Nat.le_of_ble_eq_true h2
  have hlk : ix.toNat * k + k ≤ l.length * k := by
   have := Nat.mul_le_mul_right k (show ix.toNat + 1 ≤ l.length from hlt)
   rw [Nat.add_mul, Nat.one_mul] at this; exact this
  have hvl : v.cells.toList.length = v.cells.size := by simp
  have hsz : ix.toNat * k + o + v.cells.toList.length ≤ (qAr f l T).size := by
   simp only [qAr, List.size_toArray, List.length_append, hfl]; omega
  have hrun := run_storeCells_at P (ab a) (ix.toNat * k + o) e v.cells.toList 0 (qAr f l T) w st.head.1 (by simpa using hsz) (allOne_mem h3)
  simp only [Nat.add_zero] at hrun
  have harr : ((qAr f l T).toList.take (ix.toNat * k + o) ++ v.cells.toList ++ (qAr f l T).toList.drop (ix.toNat * k + o + v.cells.toList.length)).toArray = qAr f (l.set ix.toNat u) T := by
   apply congrArg List.toArray
   simp only [qAr, List.toList_toArray]
   rw [flat_set hf l ix.toNat z u hz', hu]
   have hA : (l.flatMap f).take (ix.toNat * k + o) = (l.flatMap f).take (ix.toNat * k) ++ (f z).take o := by
    apply List.ext_getElem?
    intro j
    rw [List.getElem?_take, List.getElem?_append]
    simp only [List.length_take, hfl]
    split
    ·rename_i hj
     split
     ·rename_i hj2; rw [List.getElem?_take, if_pos (by omega)]
     ·rename_i hj2
      rw [List.getElem?_take, if_pos (by omega)]
      have hg := qNe hf l ix.toNat z (j - ix.toNat * k) hz' (by omega)
      have e1 : ix.toNat * k + (j - ix.toNat * k) = j := by omega
      rw [e1] at hg
      rw [hg]; congr 1; omega
    ·rename_i hj
     rw [if_neg (by omega), List.getElem?_take, if_neg (by omega)]
   have hB : (l.flatMap f).drop (ix.toNat * k + o + v.cells.toList.length) = (f z).drop (o + v.cells.toList.length) ++ (l.flatMap f).drop (ix.toNat * k + k) := by
    apply List.ext_getElem?
    intro j
    rw [List.getElem?_drop, List.getElem?_append]
    simp only [List.length_drop, hf]
    split
    ·rename_i hj
     rw [List.getElem?_drop]
     have hg := qNe hf l ix.toNat z (o + v.cells.toList.length + j) hz' (by omega)
     rw [← hg]; congr 1; omega
    ·rename_i hj
     rw [List.getElem?_drop]; congr 1; omega
   rw [List.take_append_of_le_length (by rw [hfl]; omega), List.drop_append_of_le_length (by rw [hfl]; omega), hA, hB]
   simp only [List.append_assoc]
  rw [harr] at hrun
  have st' := st.set (w' := w.setRow (ab a) (qAr f (l.set ix.toNat u) T)) (o' := .cells (qAr f (l.set ix.toNat u) T) e (0, 0)) ⟨⟨rfl, rfl⟩, rfl, dle⟩ (setRow_heap w (ab a) (qAr f l T) _ e _ st.head.1) (fun j _ hj => setRow_other w (ab a) j _ hj)
  rw [← opc_some (cs := qAr f (l.set ix.toNat u) T) (e := e) ha] at st'
  refine qLc ho (fun q hq => ?_) (h (w.setRow (ab a) (qAr f (l.set ix.toNat u) T)) st')
  simp [execOp, hq, Instr.storeAt, qBp hx, qBp hy, Instr.sureAddr, storeVar, sizeOf, typeInfo, hi, h1', hrun]
theorem St.freezeM {c : Codec α} {a : Option Addr} {e nn cc : Nat} {l : List α} {T : List Value} (st : St m (opc a (qAr f l T) e :: own) w) (hs : OAS a nn cc c.sz T) (hn : List.length l = nn) (hf : ∀ x, (f x).length = c.sz) (hc : ∀ m x, c.rep m x (f x)) :
  ∃ m', m.le m' ∧ St m' (.room a (List.length l) cc e c.sz :: own) w ∧ RepS c m' a cc l := by
 obtain ⟨h1, h2, h3⟩ := hs
 cases a with
 | none =>
  simp only at h3
  have hl : l = [] := List.eq_nil_of_length_eq_zero (by omega)
  subst hl; subst h3
  exact ⟨m, m.le_refl, st.tail.nilroom e c.sz, RepS.nil c m⟩
 | some p =>
  simp only at h3
  obtain ⟨hp, hT⟩ := h3
  obtain ⟨b, o, s⟩ := p
  simp only [Addr.mk.injEq, true_and] at hp
  obtain ⟨rfl, rfl⟩ := hp
  have hfl := qIz hf l
  have htk : (qAr f l T).toList.take (l.flatMap f).length = l.flatMap f := by simp [qAr]
  have st0 : St m (.blk b (.cells (qAr f l T) e (0, 0)) :: own) w := st
  obtain ⟨m', k1, k2, k3, k4, k5, k6⟩ := St.know (b := b) (cs := l.flatMap f) st0.tail (st0.head_ne rfl) st0.head.1 htk (fun o v hv => by rw [st0.head.2.1 o] at hv; cases hv)
  have hsize : (qAr f l T).size = cc * c.sz := by simp [qAr, hfl, hn, hT]
  refine ⟨m', k1, k2.cons ⟨rfl, rfl, by omega, h2, ⟨_, st0.head.1, hsize⟩, fun o ho => k4 o (by rw [hfl]; exact ho), by rw [k5]; exact st0.head.2.2⟩ ?_, ?_⟩
  ·intro k hk; simp [Piece.block] at hk; subst hk; exact st0.head_ne rfl
  ·exact RepS.of_cells (cs := l.flatMap f) (by omega) h2 (fun j x hx => by
    have e2 : ((l.flatMap f).drop (j * c.sz)).take c.sz = f x := by
     apply List.ext_getElem?
     intro q
     rw [List.getElem?_take]
     split
     ·rename_i hq
      rw [List.getElem?_drop, qNe hf l j x q hx hq]
     ·rename_i hq; rw [List.getElem?_eq_none (by rw [hf]; omega)]
    rw [e2]; exact hc m' x) k3
end
end Go.Dc
namespace Go.Dc
section
variable {P : Program} {n : Fr} {ops : Array Oper} {Q : Exit → Act → World → Prop} {L : Env} {w : World} {m : Mem} {own : List Piece}
variable {ks : List (Nat × (World → Prop))} {k fuel : Nat} {S : World → Prop} {done : List Nat}
theorem qGt {t t2 : TypeId} {x y : Operand} {a b r : ByteArray} (i d : Nat) (ho : opAt ops L i = some (some d, .binOp .add t x y t2)) (hd : Nat.blt d n = true)
  (hs : qLy ops ks k i done = true) (hmem : (k, S) ∈ ks) (hq : QP Q) (hx : evL L x = some (.string a)) (hy : evL L y = some (.string b)) (hc : catB a b = some r)
  (h : WA P n ops Q ks fuel (done ++ [i]) ((d, .string r) :: L) w) : WA P n ops Q ks (fuel + 1) done L w := by
 unfold catB at hc
 split at hc
 ·rename_i hb
  simp only [Option.some.injEq] at hc; subst hc
  refine WA_take i d _ _ ho hd hs hmem hq (fun q hq w' _ => ?_) h
  have hmax : IntKind.i64.max = 9223372036854775807 := by decide
  have hb' : ¬ (9223372036854775807 < (a.size : Int) + (b.size : Int)) := by simp only [maxLen] at hb; omega
  simp [execOp, hq, qBp hx, qBp hy, eqGuard, binOp, Op.stringOp, hmax, hb']
 ·cases hc
end
end Go.Dc
namespace Go.Dc
section
variable {P : Program} {n : Fr} {ops : Array Oper} {Q : Exit → Act → World → Prop} {L : Env} {w : World} {m : Mem} {own : List Piece}
variable {ks : List (Nat × (World → Prop))} {fuel : Nat} {done : List Nat} {α : Type} {f : α → List Value}
theorem WA_many (is : List Nat) (hr : Region.ready .any ops (marks done ops.size) = is) (hne : is ≠ [])
  (h : ∀ i ∈ is, One P n ops Q i (fun L' w' => TS ks (marks (done ++ [i]) ops.size) w' ∧ WA P n ops Q ks fuel (done ++ [i]) L' w') L w) : WA P n ops Q ks (fuel + 1) done L w := by
 intro _ a ha
 refine ⟨fun h0 => (by rw [hr] at h0; exact absurd h0 hne), fun j hj => ?_⟩
 rw [hr] at hj
 refine opW_mono (fun a' w' h' => ?_) (h j hj a ha)
 obtain ⟨L', h1, h2, h3⟩ := h'
 have := h3 h2 a' h1
 rw [qLg] at h2
 rw [qLg] at this
 exact ⟨h2, this⟩
theorem all_two {p : Nat → Prop} {a b : Nat} (ha : p a) (hb : p b) : ∀ i ∈ [a, b], p i := by
 intro i hi; simp only [List.mem_cons, List.not_mem_nil, or_false] at hi
 rcases hi with rfl | rfl <;> assumption
theorem qJh {q : Nat} {S : World → Prop} {t e : TypeId} {x y : Operand} {a : Option Addr} {nn cc k : Nat} {T : List Value} {l : List α} {kd : IntKind} {ix : Int} {z : α} (i d : Nat) (ho : opAt ops L i = some (some d, .indexAddr t x y)) (hd : Nat.blt d n = true)
  (hsT : qLy ops ks q i done = true) (hmem : (q, S) ∈ ks) (hq : QP Q)
  (hx : evL L x = some (.slice a nn cc)) (hy : evL L y = some (.int kd ix)) (hi : qHx P t = some (e, k)) (hs : OAS a nn cc k T) (hn : List.length l = nn) (hz : idx l ix = some z)
  (h : WA P n ops Q ks fuel (done ++ [i]) ((d, .pointer (some ⟨ab a, ix.toNat * k, none⟩)) :: L) w) : WA P n ops Q ks (fuel + 1) done L w := by
 obtain ⟨h1, inf, h2, h3⟩ := qHf hi
 obtain ⟨h0, _, hlt⟩ := idx_lt hz
 have ha := hs.some hn hlt
 refine WA_take i d _ _ ho hd hsT hmem hq (fun q hq w' _ => ?_) h
 have hlt' : ix < (nn : Int) := by omega
 rw [ha] at hx
 simp [execOp, hq, Instr.indexAt, qBp hx, qBp hy, asIntOf, run_underlying h1, h0, hlt', sizeOf, typeInfo, h2, h3, qLu]
theorem qMs {q : Nat} {S : World → Prop} {t e : TypeId} {x : Operand} {a : Option Addr} {nn cc k : Nat} {l : List α} {T : List Value} {ix : Int} {z : α} {o : Nat} {v : Value} (i d : Nat) (hf : ∀ x, (f x).length = k) (po : Nat) (hpo : po = ix.toNat * k + o) (ho : opAt ops L i = some (some d, .load t x)) (hd : Nat.blt d n = true)
  (hsT : qLy ops ks q i done = true) (hmem : (q, S) ∈ ks) (hq : QP Q) (hI : ∀ w, S w → Piece.holds m w (opc a (qAr f l T) e))
  (hx : evL L x = some (.pointer (some ⟨ab a, po, none⟩))) (hs : OAS a nn cc k T) (hn : List.length l = nn) (hz : idx l ix = some z) (hv : loadV P t ((f z).drop o) = some v)
  (h : WA P n ops Q ks fuel (done ++ [i]) ((d, v) :: L) w) : WA P n ops Q ks (fuel + 1) done L w := by
 obtain ⟨h0, hz', hlt⟩ := idx_lt hz
 have ha := hs.some hn hlt
 subst hpo
 refine WA_take i d _ _ ho hd hsT hmem hq (fun q hq w' hw' => ?_) h
 have hp := hI w' hw'
 rw [opc_some ha] at hp
 have hb := hp.1
 have hl := qKn (P := P) (w := w') (t := t) (b := ab a) (o := ix.toNat * k + o) (cs := (f z).drop o) (v := v) (fun j u hu => by
  rw [List.getElem?_drop] at hu
  have hjk : o + j < k := by rw [← hf z]; exact (List.getElem?_eq_some_iff.1 hu).1
  have hg := qNe hf l ix.toNat z (o + j) hz' hjk
  rw [hu] at hg
  have hlt2 := (List.getElem?_eq_some_iff.1 hg).1
  simp only [World.cell?, hb, qAr, List.getElem?_toArray]
  have e : ix.toNat * k + o + j = ix.toNat * k + (o + j) := by omega
  rw [e, List.getElem?_append_left hlt2]
  simpa using hg) hv
 simp [execOp, hq, Instr.loadAt, qBp hx, Instr.sureAddr, hl]
end
end Go.Dc
namespace Go.Dc
section
variable {P : Program} {n : Fr} {ops : Array Oper} {Q : Exit → Act → World → Prop} {i d : Nat} {L : Env} {w : World} {m : Mem} {own : List Piece} {N : Env → World → Prop}
variable {α : Type} {f : α → List Value}
def appM (by_ : Nat) (k : List α) : Option (List α) := if k.length * by_ ≤ 140737488355328 ∧ k.length ≤ maxLen then some k else none
theorem flat_of_rep {c : Codec α} (hfr : ∀ m x cs, c.rep m x cs → cs = f x) {k : List α} {cs : List Value} (hl : cs.length = k.length * c.sz) (hrep : ∀ i y, k[i]? = some y → c.rep m y ((cs.drop (i * c.sz)).take c.sz)) : cs = k.flatMap f := by
 induction k generalizing cs with
 | nil => simp at hl; subst hl; rfl
 | cons x k ih =>
  have h0 := hfr _ _ _ (hrep 0 x rfl)
  simp only [Nat.zero_mul, List.drop_zero] at h0
  have h1 := ih (cs := cs.drop c.sz) (by simp only [List.length_drop, hl, List.length_cons, Nat.add_mul]; omega) (fun i y hy => by
   have := hrep (i + 1) y (by simpa using hy)
   rw [List.drop_drop]
   have e : c.sz + i * c.sz = (i + 1) * c.sz := by rw [Nat.add_mul]; omega
   rw [e]; exact this)
  rw [List.flatMap_cons, ← h0, ← h1, List.take_append_drop]
theorem room_opc {a : Option Addr} {e sz : Nat} (st : St m (.room a 0 0 e sz :: own) w) : St m (opc a (qAr f [] []) e :: own) w := by
 cases a with
 | none => exact st.tail.nilroom 0 0
 | some p =>
  obtain ⟨q1, q2, q3, q4, ⟨cur, q5, q6⟩, q7, q8⟩ := st.head
  have hc : cur = qAr f [] [] := by
   have : cur.size = 0 := by omega
   rw [Array.size_eq_zero_iff.1 this]; rfl
  refine st.tail.cons ⟨by rw [q5, hc], ⟨fun o => q7 o (by omega), q8⟩⟩ ?_
  intro k hk
  have hk' : some p.block = some k := hk
  simp only [Option.some.injEq] at hk'; subst hk'
  exact st.head_ne rfl
theorem One_appM {t u e by_ : Nat} {x y : Operand} {c : Codec α} {v : Value} {a : Option Addr} {k l : List α} (hfr : ∀ m x cs, c.rep m x cs → cs = f x) (hf : ∀ x, (f x).length = c.sz)
  (ho : opAt ops L i = some (some d, .call { callee := .builtin .append, args := #[x, y], argTypes := #[t, u] })) (hd : Nat.blt d n = true)
  (hx : evL L x = some (.slice a 0 0)) (hy : evL L y = some v) (st : St m (.room a 0 0 e c.sz :: own) w) (hi : qLk P t = some (e, c.sz, by_, c.sz)) (hu : srcOK P u e)
  (hg : Gives P c m v k) (hs : appM by_ k = some l)
  (h : ∀ a' cap T w', OAS a' (List.length l) cap c.sz T → St m (opc a' (qAr f l T) e :: own) w' → N ((d, .slice a' (List.length l) cap) :: L) w') : One P n ops Q i N L w := by
 obtain ⟨ht, inf, z, hinf, hz, hisz, hby, hzs⟩ := qKj hi
 unfold appM at hs
 split at hs
 ·rename_i hk
  obtain ⟨k1, k2⟩ := hk
  simp only [Option.some.injEq] at hs; subst hs
  obtain ⟨cs, hsrcs, hrep⟩ := hg
  have hsrc := hsrcs w st.inv
  have hl : cs.length = k.length * c.sz := hsrc.2.2.1
  have hcs : cs = k.flatMap f := flat_of_rep hfr hl hrep
  by_cases h0 : k.length = 0
  ·have hk0 := List.eq_nil_of_length_eq_zero h0
   subst hk0
   have hcs0 : cs = [] := by simpa using hcs
   subst hcs0
   have st' := room_opc (f := f) st
   cases a with
   | none =>
    refine qLb (v := undef) (w' := w) ho hd (fun o h3 => ?_)
    have hrun := qLh w t u o.type e inf ht hu hinf (x := v) (news := []) (by rw [hisz]; exact hsrc)
    refine ⟨_, _, ?_, h none 0 [] w ⟨Nat.le_refl _, Nat.zero_le _, rfl⟩ st'⟩
    simp only [execOp, h3, resolve, Sem.run_bind, Sem.run_pure, Result.andThen_ok, invoke, builtin]
    simp [qBp hx, qBp hy, hrun]
   | some p =>
    obtain ⟨q1, q2, q3, q4, ⟨cur, q5, q6⟩, q7, q8⟩ := st.head
    obtain ⟨g, off, spot⟩ := p
    simp only at q1 q2 q5 q7 q8
    subst q1; subst q2
    refine qLb (v := undef) (w' := w) ho hd (fun o h3 => ?_)
    have hrun := qNf w t u o.type e inf ht hu hinf (x := v) (n := 0) (news := []) (by rw [hisz]; exact hsrc) g 0 0 cur q5 (by simp) (by simp)
    have hw : w.setRow g (cur.toList.take (0 * inf.size) ++ [] ++ cur.toList.drop (0 * inf.size + ([] : List Value).length)).toArray = w := by
     have : (cur.toList.take (0 * inf.size) ++ [] ++ cur.toList.drop (0 * inf.size + ([] : List Value).length)).toArray = cur := by simp
     rw [this, setRow_self w g cur e (0, 0) q5]
    rw [hw] at hrun
    refine ⟨_, _, ?_, h (some ⟨g, 0, none⟩) 0 [] w ⟨Nat.le_refl _, Nat.zero_le _, rfl, by simp⟩ st'⟩
    simp only [execOp, h3, resolve, Sem.run_bind, Sem.run_pure, Result.andThen_ok, invoke, builtin]
    simp [qBp hx, qBp hy, hrun]
  ·have hlt : 0 < 0 + k.length := by omega
   have hinv' : ∀ w' : World, Step w w' → w'.heap = w.heap → Inv m w' := fun w' hs hw => st.inv.keep hs (fun b _ _ => by rw [hw])
   refine qLb (v := undef) (w' := w) ho hd (fun o h3 => ?_)
   have hold : ∀ w' : World, Step w w' → w'.heap = w.heap → (Builtin.firstCells inf.size 0 (.slice a 0 0)).run P w' = .ok ([] : List Value).toArray w' := fun w' _ _ => by
    cases a with
    | none => simp [Builtin.firstCells]
    | some p => exact run_firstCells_some w' inf.size 0 p 0 0 [] (by simp) (fun j v hv => by simp at hv)
   have hrun := qMe (ty := o.type) w t u e inf z ht hu hinf hz (n := k.length) (news := cs) (by rw [hisz]; exact hsrc) a 0 0 []
    hold (fun w' hs hw => by rw [hisz]; exact (hsrcs w' (hinv' w' hs hw)).2.1) hlt (by rw [hby, Nat.zero_add]; exact k1) (by rw [Nat.zero_add]; exact k2)
   generalize hgc : grownCap w (0 + k.length) 0 e = gc at hrun
   have hge : 0 + k.length ≤ gc := hgc ▸ grownCap_ge _ _ _ _
   have hgm : gc ≤ maxLen := hgc ▸ grownCap_le_maxLen _ _ _ _ (by rw [Nat.zero_add]; exact k2)
   have hac : (([] : List Value) ++ cs).toArray ++ Builtin.zeroCells z.cells (gc - (0 + k.length)) = qAr f k (Builtin.zeroCells z.cells (gc - (0 + k.length))).toList := by
    rw [hcs]; apply Array.ext'; simp [qAr]
   rw [hac] at hrun
   refine ⟨_, _, ?_, h (some ⟨w.heap.size, 0, none⟩) gc _ _ ⟨by omega, hgm, rfl, ?_⟩ (st.tail.alloc (w' := w.drew.alloc (.cells (qAr f k (Builtin.zeroCells z.cells (gc - (0 + k.length))).toList) e)) ⟨⟨rfl, rfl⟩, rfl, dle⟩ rfl)⟩
   ·simp only [execOp, h3, resolve, Sem.run_bind, Sem.run_pure, Result.andThen_ok, invoke, builtin]
    simp [qBp hx, qBp hy, hrun]
   ·simp only [Array.length_toList, size_zeroCells, hzs, ← Nat.add_mul]
    congr 1; omega
 ·cases hs
end
end Go.Dc
namespace Go.Dc
theorem opc_anti {m m' : Mem} {w : World} {a : Option Addr} {cs : Array Value} {e : TypeId} (h : Piece.holds m' w (opc a cs e)) (hle : m.le m') : Piece.holds m w (opc a cs e) := by
 cases a with
 | none => exact h
 | some p => exact Piece.holds_anti (o := .cells cs e (0, 0)) h hle
end Go.Dc
namespace Go.Dc
section
variable {P : Program} {n : Fr} {ops : Array Oper} {Q : Exit → Act → World → Prop} {L : Env} {w : World}
theorem W_sr {id : Nat} {y : Code} (h : WO P n ops (Exit.then (fun a w => y.wpIn (fen none) 0 P Q a w) Q) 0 L w) : W none P n (.seq (.region id ops false) y) Q L w := qAs (qAx h)
theorem qAg {i : Nat} {ρ : Option Nat} {y : Code} (hi : ops.size = i) (h : W ρ P n y Q L w) : WO P n ops (Exit.then (fun a w => y.wpIn (fen ρ) 0 P Q a w) Q) i L w := qBh hi (qAm h)
end
end Go.Dc
