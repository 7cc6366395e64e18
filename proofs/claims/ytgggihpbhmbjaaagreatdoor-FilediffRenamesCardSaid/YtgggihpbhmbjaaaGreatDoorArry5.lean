/- The decompiler's rules of arrays whose elements are structs of plain values, and that are written; results of calls taken as such arrays. No condition. -/
import Derived.Test.YtgggihpbhmbjaaaGreatDoorExty5
namespace Go.Dc
def ab (a : Option Addr) : Nat := match a with | some p => p.block | none => 0
def opc (a : Option Addr) (cs : Array Value) (e : TypeId) : Piece := match a with
 | none => .room none 0 0 0 0
 | some p => .blk p.block (.cells cs e (0, 0))
def acellsM {α : Type} (f : α → List Value) (l : List α) (T : List Value) : Array Value := (l.flatMap f ++ T).toArray
def OAS (a : Option Addr) (n cap k : Nat) (T : List Value) : Prop :=
 n ≤ cap ∧ cap ≤ maxLen ∧ match a with
  | none => cap = 0
  | some p => p = ⟨p.block, 0, none⟩ ∧ n * k + T.length = cap * k
theorem OAS.nil (k : Nat) : OAS none 0 0 k [] := ⟨Nat.le_refl _, Nat.zero_le _, rfl⟩
theorem flat_len {α : Type} {f : α → List Value} {k : Nat} (hf : ∀ x, (f x).length = k) : ∀ l : List α, (l.flatMap f).length = l.length * k
 | [] => by simp
 | x :: l => by simp [List.flatMap_cons, hf, flat_len hf l, Nat.add_mul, Nat.add_comm]
theorem flat_get {α : Type} {f : α → List Value} {k : Nat} (hf : ∀ x, (f x).length = k) : ∀ (l : List α) (i : Nat) (z : α) (j : Nat), l[i]? = some z → j < k → (l.flatMap f)[i * k + j]? = (f z)[j]?
 | [], i, z, j, h, _ => by simp at h
 | x :: l, 0, z, j, h, hj => by
  simp at h; subst h
  simp [List.flatMap_cons, List.getElem?_append, hf, hj]
 | x :: l, i + 1, z, j, h, hj => by
  have := flat_get hf l i z j (by simpa using h) hj
  rw [List.flatMap_cons, List.getElem?_append_right (by rw [hf, Nat.add_mul]; omega), hf]
  have e : (i + 1) * k + j - k = i * k + j := by rw [Nat.add_mul]; omega
  rw [e]; exact this
section
variable {P : Program} {n : Fr} {ops : Array Oper} {Q : Exit → Act → World → Prop} {i d : Nat} {L : Env} {w : World} {m : Mem} {own : List Piece} {N : Env → World → Prop}
variable {α : Type} {f : α → List Value}
theorem OAS.some {a : Option Addr} {nn cap k : Nat} {T : List Value} (h : OAS a nn cap k T) {l : List α} (hn : List.length l = nn) {j : Nat} (hj : j < l.length) : a = Option.some ⟨ab a, 0, none⟩ := by
 obtain ⟨h1, h2, h3⟩ := h
 cases a with
 | none => simp only at h3; omega
 | some p => simp only at h3; exact congrArg Option.some h3.1
theorem St.freezeM {c : Codec α} {a : Option Addr} {e nn cc : Nat} {l : List α} {T : List Value} (st : St m (opc a (acellsM f l T) e :: own) w) (hs : OAS a nn cc c.sz T) (hn : List.length l = nn) (hf : ∀ x, (f x).length = c.sz) (hc : ∀ m x, c.rep m x (f x)) :
  ∃ m', m.le m' ∧ St m' (.room a (List.length l) cc e c.sz :: own) w ∧ RepS c m' a cc l := by
 obtain ⟨h1, h2, h3⟩ := hs
 cases a with
 | none =>
  simp only at h3
  have hl : l = [] := List.eq_nil_of_length_eq_zero (by omega)
  subst hl; subst h3
  exact ⟨m, m.le_refl, st.tail.nilroom e c.sz, RepS.nil c m⟩
 | some p =>
  simp only at h3
  obtain ⟨hp, hT⟩ := h3
  obtain ⟨b, o, s⟩ := p
  simp only [Addr.mk.injEq, true_and] at hp
  obtain ⟨rfl, rfl⟩ := hp
  have hfl := flat_len hf l
  have htk : (acellsM f l T).toList.take (l.flatMap f).length = l.flatMap f := by simp [acellsM]
  have st0 : St m (.blk b (.cells (acellsM f l T) e (0, 0)) :: own) w := st
  obtain ⟨m', k1, k2, k3, k4, k5, k6⟩ := St.know (b := b) (cs := l.flatMap f) st0.tail (st0.head_ne rfl) st0.head.1 htk (fun o v hv => by rw [st0.head.2.1 o] at hv; cases hv)
  have hsize : (acellsM f l T).size = cc * c.sz := by simp [acellsM, hfl, hn, hT]
  refine ⟨m', k1, k2.cons ⟨rfl, rfl, by omega, h2, ⟨_, st0.head.1, hsize⟩, fun o ho => k4 o (by rw [hfl]; exact ho), by rw [k5]; exact st0.head.2.2⟩ ?_, ?_⟩
  ·intro k hk; simp [Piece.block] at hk; subst hk; exact st0.head_ne rfl
  ·exact RepS.of_cells (cs := l.flatMap f) (by omega) h2 (fun j x hx => by
    have e2 : ((l.flatMap f).drop (j * c.sz)).take c.sz = f x := by
     apply List.ext_getElem?
     intro q
     rw [List.getElem?_take]
     split
     ·rename_i hq
      rw [List.getElem?_drop, flat_get hf l j x q hx hq]
     ·rename_i hq; rw [List.getElem?_eq_none (by rw [hf]; omega)]
    rw [e2]; exact hc m' x) k3
end
end Go.Dc
namespace Go.Dc
section
variable {P : Program} {n : Fr} {ops : Array Oper} {Q : Exit → Act → World → Prop} {L : Env} {w : World} {m : Mem} {own : List Piece}
variable {ks : List (Nat × (World → Prop))} {k fuel : Nat} {S : World → Prop} {done : List Nat}
theorem WA_cat {t t2 : TypeId} {x y : Operand} {a b r : ByteArray} (i d : Nat) (ho : opAt ops L i = some (some d, .binOp .add t x y t2)) (hd : Nat.blt d n = true)
  (hs : takeOK ops ks k i done = true) (hmem : (k, S) ∈ ks) (hq : QP Q) (hx : evL L x = some (.string a)) (hy : evL L y = some (.string b)) (hc : catB a b = some r)
  (h : WA P n ops Q ks fuel (done ++ [i]) ((d, .string r) :: L) w) : WA P n ops Q ks (fuel + 1) done L w := by
 unfold catB at hc
 split at hc
 ·rename_i hb
  simp only [Option.some.injEq] at hc; subst hc
  refine WA_take i d _ _ ho hd hs hmem hq (fun q hq w' _ => ?_) h
  have hmax : IntKind.i64.max = 9223372036854775807 := by decide
  have hb' : ¬ (9223372036854775807 < (a.size : Int) + (b.size : Int)) := by simp only [maxLen] at hb; omega
  simp [execOp, hq, evD_of hx, evD_of hy, eqGuard, binOp, Op.stringOp, hmax, hb']
 ·cases hc
end
end Go.Dc
namespace Go.Dc
section
variable {P : Program} {n : Fr} {ops : Array Oper} {Q : Exit → Act → World → Prop} {L : Env} {w : World} {m : Mem} {own : List Piece}
variable {ks : List (Nat × (World → Prop))} {fuel : Nat} {done : List Nat} {α : Type} {f : α → List Value}
theorem WA_many (is : List Nat) (hr : Region.ready .any ops (marks done ops.size) = is) (hne : is ≠ [])
  (h : ∀ i ∈ is, One P n ops Q i (fun L' w' => TS ks (marks (done ++ [i]) ops.size) w' ∧ WA P n ops Q ks fuel (done ++ [i]) L' w') L w) : WA P n ops Q ks (fuel + 1) done L w := by
 intro _ a ha
 refine ⟨fun h0 => (by rw [hr] at h0; exact absurd h0 hne), fun j hj => ?_⟩
 rw [hr] at hj
 refine opW_mono (fun a' w' h' => ?_) (h j hj a ha)
 obtain ⟨L', h1, h2, h3⟩ := h'
 have := h3 h2 a' h1
 rw [marks_snoc] at h2
 rw [marks_snoc] at this
 exact ⟨h2, this⟩
theorem all_two {p : Nat → Prop} {a b : Nat} (ha : p a) (hb : p b) : ∀ i ∈ [a, b], p i := by
 intro i hi; simp only [List.mem_cons, List.not_mem_nil, or_false] at hi
 rcases hi with rfl | rfl <;> assumption
end
end Go.Dc
namespace Go.Dc
section
variable {P : Program} {n : Fr} {ops : Array Oper} {Q : Exit → Act → World → Prop} {i d : Nat} {L : Env} {w : World} {m : Mem} {own : List Piece} {N : Env → World → Prop}
variable {α : Type} {f : α → List Value}
theorem flat_of_rep {c : Codec α} (hfr : ∀ m x cs, c.rep m x cs → cs = f x) {k : List α} {cs : List Value} (hl : cs.length = k.length * c.sz) (hrep : ∀ i y, k[i]? = some y → c.rep m y ((cs.drop (i * c.sz)).take c.sz)) : cs = k.flatMap f := by
 induction k generalizing cs with
 | nil => simp at hl; subst hl; rfl
 | cons x k ih =>
  have h0 := hfr _ _ _ (hrep 0 x rfl)
  simp only [Nat.zero_mul, List.drop_zero] at h0
  have h1 := ih (cs := cs.drop c.sz) (by simp only [List.length_drop, hl, List.length_cons, Nat.add_mul]; omega) (fun i y hy => by
   have := hrep (i + 1) y (by simpa using hy)
   rw [List.drop_drop]
   have e : c.sz + i * c.sz = (i + 1) * c.sz := by rw [Nat.add_mul]; omega
   rw [e]; exact this)
  rw [List.flatMap_cons, ← h0, ← h1, List.take_append_drop]
theorem room_opc {a : Option Addr} {e sz : Nat} (st : St m (.room a 0 0 e sz :: own) w) : St m (opc a (acellsM f [] []) e :: own) w := by
 cases a with
 | none => exact st.tail.nilroom 0 0
 | some p =>
  obtain ⟨q1, q2, q3, q4, ⟨cur, q5, q6⟩, q7, q8⟩ := st.head
  have hc : cur = acellsM f [] [] := by
   have : cur.size = 0 := by omega
   rw [Array.size_eq_zero_iff.1 this]; rfl
  refine st.tail.cons ⟨by rw [q5, hc], ⟨fun o => q7 o (by omega), q8⟩⟩ ?_
  intro k hk
  have hk' : some p.block = some k := hk
  simp only [Option.some.injEq] at hk'; subst hk'
  exact st.head_ne rfl
end
end Go.Dc
namespace Go.Dc
end Go.Dc
namespace Go.Dc
section
variable {P : Program} {n : Fr} {ops : Array Oper} {Q : Exit → Act → World → Prop} {L : Env} {w : World}
theorem W_sr {id : Nat} {y : Code} (h : WO P n ops (Exit.then (fun a w => y.wpIn (fen none) 0 P Q a w) Q) 0 L w) : W none P n (.seq (.region id ops false) y) Q L w := W_seq (W_region h)
theorem WO_et {i : Nat} {ρ : Option Nat} {y : Code} (hi : ops.size = i) (h : W ρ P n y Q L w) : WO P n ops (Exit.then (fun a w => y.wpIn (fen ρ) 0 P Q a w) Q) i L w := WO_end hi (X_then h)
end
end Go.Dc
