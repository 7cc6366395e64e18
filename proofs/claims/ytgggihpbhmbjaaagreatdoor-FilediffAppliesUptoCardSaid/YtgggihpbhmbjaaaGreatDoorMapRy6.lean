/- The decompiler's rules of a range over a map, whatever the order is. No condition. -/
import Derived.Test.YtgggihpbhmbjaaaGreatDoorMapy6
import Derived.Maps.RangeRun
namespace Go.Dc
def qIf {α σ β : Type} (f : Option α → σ → Option (σ ⊕ β)) : List α → σ → Option β
 | [], s => (f none s).bind fun
  | .inl _ => none
  | .inr b => some b
 | e :: l, s => (f (some e) s).bind fun
  | .inl s' => qIf f l s'
  | .inr b => some b
def inserts {α : Type} (x : α) : List α → List (List α)
 | [] => [[x]]
 | y :: l => (x :: y :: l) :: (inserts x l).map (y :: ·)
def perms {α : Type} : List α → List (List α)
 | [] => [[]]
 | x :: l => (perms l).flatMap (inserts x)
theorem qNb {α : Type} {x : α} : ∀ {l k : List α}, k ∈ inserts x l ↔ ∃ a b, l = a ++ b ∧ k = a ++ x :: b
 | [], k => by
  simp only [inserts, List.mem_singleton]
  constructor
  ·rintro rfl; exact ⟨[], [], rfl, rfl⟩
  ·rintro ⟨a, b, h, rfl⟩
   simp only [List.nil_eq, List.append_eq_nil_iff] at h
   obtain ⟨rfl, rfl⟩ := h; rfl
 | y :: l, k => by
  simp only [inserts, List.mem_cons, List.mem_map]
  constructor
  ·rintro (rfl | ⟨k', hk, rfl⟩)
   ·exact ⟨[], y :: l, rfl, rfl⟩
   ·obtain ⟨a, b, rfl, rfl⟩ := qNb.1 hk
    exact ⟨y :: a, b, rfl, rfl⟩
  ·rintro ⟨a, b, h, rfl⟩
   cases a with
   | nil => left; simp only [List.nil_append] at h; rw [← h]; rfl
   | cons z a =>
    simp only [List.cons_append, List.cons.injEq] at h
    obtain ⟨rfl, rfl⟩ := h
    right
    exact ⟨a ++ x :: b, qNb.2 ⟨a, b, rfl, rfl⟩, rfl⟩
theorem mem_perms {α : Type} : ∀ {l k : List α}, k.Perm l → k ∈ perms l
 | [], k, h => by rw [List.perm_nil] at h; subst h; simp [perms]
 | x :: l, k, h => by
  have hx : x ∈ k := h.mem_iff.2 (List.mem_cons_self ..)
  obtain ⟨a, b, rfl⟩ := List.append_of_mem hx
  have h' : (a ++ b).Perm l := (List.perm_middle.symm.trans h).cons_inv
  simp only [perms, List.mem_flatMap]
  exact ⟨a ++ b, mem_perms h', qNb.2 ⟨a, b, rfl, rfl⟩⟩
theorem perms_perm {α : Type} : ∀ {l k : List α}, k ∈ perms l → k.Perm l
 | [], k, h => by simp [perms] at h; subst h; exact .refl _
 | x :: l, k, h => by
  simp only [perms, List.mem_flatMap] at h
  obtain ⟨k', h1, h2⟩ := h
  obtain ⟨a, b, rfl, rfl⟩ := qNb.1 h2
  exact List.perm_middle.trans ((perms_perm h1).cons x)
def mrange {α σ β : Type} [DecidableEq β] (f : Option α → σ → Option (σ ⊕ β)) (l : List α) (s : σ) : Option β :=
 match qIf f l s with
 | none => none
 | some b => if ((perms l).all fun k => decide (qIf f k s = some b)) = true then some b else none
theorem mrange_all {α σ β : Type} [DecidableEq β] {f : Option α → σ → Option (σ ⊕ β)} {l : List α} {s : σ} {b : β} (h : mrange f l s = some b) : ∀ k, k.Perm l → qIf f k s = some b := by
 unfold mrange at h
 split at h
 ·cases h
 ·rename_i b' hb
  split at h
  ·rename_i hall
   simp only [Option.some.injEq] at h; subst h
   intro k hk
   have := List.all_eq_true.1 hall k (mem_perms hk)
   simpa using this
  ·cases h
theorem mrange_of {α σ β : Type} [DecidableEq β] {f : Option α → σ → Option (σ ⊕ β)} {l : List α} {s : σ} {b : β} (h : ∀ k, k.Perm l → qIf f k s = some b) : mrange f l s = some b := by
 unfold mrange
 rw [h l (.refl _)]
 simp only
 rw [if_pos]
 exact List.all_eq_true.2 fun k hk => by simpa using h k (perms_perm hk)
def LoopE {α σ β : Type} (f : Option α → σ → Option (σ ⊕ β)) (rem : List α) (s : σ) (b : β) (k : Nat) : Prop := (∀ l, l.Perm rem → qIf f l s = some b) ∧ rem.length < k
theorem LoopE.start {α σ β : Type} [DecidableEq β] {f : Option α → σ → Option (σ ⊕ β)} {l : List α} {s : σ} {b : β} (h : mrange f l s = some b) : LoopE f l s b (l.length + 1) := ⟨mrange_all h, Nat.lt_succ_self _⟩
theorem LoopE.zero {α σ β : Type} {f : Option α → σ → Option (σ ⊕ β)} {rem : List α} {s : σ} {b : β} {p : Prop} (h : LoopE f rem s b 0) : p := absurd h.2 (Nat.not_lt_zero _)
theorem LoopE.nil {α σ β : Type} {f : Option α → σ → Option (σ ⊕ β)} {rem : List α} {s : σ} {b : β} {k : Nat} (h : LoopE f rem s b (k + 1)) (hr : rem = []) :
  ∃ c, f none s = some c ∧ (∀ s', c = .inl s' → LoopE f rem s' b k) ∧ (∀ b', c = .inr b' → b' = b) := by
 subst hr
 have := h.1 [] (.refl _)
 simp only [qIf] at this
 obtain ⟨c, h1, h2⟩ := Option.bind_eq_some_iff.1 this
 refine ⟨c, h1, ?_, ?_⟩
 ·rintro s' rfl; simp at h2
 ·rintro b' rfl; simpa using h2
theorem LoopE.cons {α σ β : Type} {f : Option α → σ → Option (σ ⊕ β)} {rem rest : List α} {e : α} {s : σ} {b : β} {k : Nat} (h : LoopE f rem s b (k + 1)) (hr : rem.Perm (e :: rest)) :
  ∃ c, f (some e) s = some c ∧ (∀ s', c = .inl s' → LoopE f rest s' b k) ∧ (∀ b', c = .inr b' → b' = b) := by
 have hlen : rem.length = rest.length + 1 := by simpa using hr.length_eq
 have key : ∀ l, l.Perm rest → qIf f (e :: l) s = some b := fun l hl => h.1 _ ((hl.cons e).trans hr.symm)
 have h0 := key rest (.refl _)
 simp only [qIf] at h0
 obtain ⟨c, h1, h2⟩ := Option.bind_eq_some_iff.1 h0
 refine ⟨c, h1, ?_, ?_⟩
 ·rintro s' rfl
  refine ⟨fun l hl => ?_, by have := h.2; omega⟩
  have := key l hl
  simp only [qIf, h1, Option.bind_some] at this
  exact this
 ·rintro b' rfl; simpa using h2
def qHj (r : Nat) (q : Option Nat) (ck : Nat) (seen : Array Nat) : Piece := .blk r (.mapIter q ck seen ck)
def leftE (es : Array MapEntry) (seen : Array Nat) : List MapEntry := es.toList.filter fun e => !seen.contains e.born
def ItR {κ ν : Type} (ek : κ → Value) (c : Codec ν) (agg : Bool) (m : Mem) (es : Array MapEntry) (seen : Array Nat) (rem : List (κ × ν)) : Prop := ∃ l', l'.Perm rem ∧ MapL ek c agg m (leftE es seen) l'
def Ent (es : Array MapEntry) (seen : Array Nat) (k v : Value) : Prop := ∃ (s0 : Array Nat) (e : MapEntry), seen = s0.push e.born ∧ e ∈ es.toList ∧ e.key = k ∧ e.val = v
theorem ItR.mono {κ ν : Type} {ek : κ → Value} {c : Codec ν} {agg : Bool} {m m' : Mem} {es : Array MapEntry} {seen : Array Nat} {rem : List (κ × ν)} (h : ItR ek c agg m es seen rem) (hle : m.le m') : ItR ek c agg m' es seen rem := by
 obtain ⟨l', h1, h2⟩ := h; exact ⟨l', h1, h2.mono hle⟩
section
variable {P : Program} {n : Fr} {ops : Array Oper} {Q : Exit → Act → World → Prop} {i d : Nat} {L : Env} {w : World} {m : Mem} {own : List Piece} {N : Env → World → Prop}
variable {κ ν : Type} {ek : κ → Value} {c : Codec ν} {agg : Bool}
theorem One_range {t kt et : TypeId} {x : Operand} {b : Nat} {es : Array MapEntry} {ck : Nat} {o : Option (List (κ × ν))} (ho : opAt ops L i = some (some d, .range t x)) (hd : Nat.blt d n = true) (hx : evL L x = some (.map (some b)))
  (ht : P.underlying t = some (.map kt et)) (st : St m (qBo (some b) es ck :: own) w) (hr : MapQ ek c agg m (some b) es ck o)
  (h : ∀ r w', St m (qHj r (some b) ck #[] :: qBo (some b) es ck :: own) w' → ItR ek c agg m es #[] (o.getD []) → N ((d, .pointer (some ⟨r, 0, none⟩)) :: L) w') : One P n ops Q i N L w := by
 obtain ⟨l, l', rfl, hperm, hnd, hl, hb⟩ := hr
 have hget : (getObj b).run P w = .ok (.map es ck) w := by
  have hh : w.heap[b]? = some (.map es ck) := st.head.1
  simp [getObj, Sem.run, hh]
 have hal := st.alloc (w' := w.alloc (.mapIter (some b) ck #[] ck)) (o := .mapIter (some b) ck #[] ck) ⟨⟨rfl, rfl⟩, rfl, dle⟩ rfl
 have hnew : ∀ o, (newObj o).run P w = .ok w.heap.size (w.alloc o) := fun o => rfl
 refine qFb ho hd (fun q hq => ?_) (h w.heap.size _ hal ⟨l', hperm, by rw [show leftE es #[] = es.toList from List.filter_eq_self.2 (fun _ _ => by simp)]; exact hl⟩)
 simp [execOp, hq, qBp hx, Instr.range, run_underlying ht, hget, hnew]
theorem mapL_at : ∀ {es : List MapEntry} {l : List (κ × ν)} {j : Nat} {e : MapEntry}, MapL ek c agg m es l → es[j]? = some e → ∃ k v cs, l[j]? = some (k, v) ∧ e.key = ek k ∧ c.rep m v cs ∧ e.val = mkV agg cs ∧ MapL ek c agg m (es.eraseIdx j) (l.eraseIdx j)
 | e0 :: es, l, 0, e, ⟨k, v, l', h1, h2, ⟨cs, h3, h4⟩, h5⟩, he => by
  simp at he; subst he h1
  exact ⟨k, v, cs, rfl, h2, h3, h4, by simpa using h5⟩
 | e0 :: es, l, j + 1, e, ⟨k, v, l', h1, h2, h3, h5⟩, he => by
  subst h1
  obtain ⟨k1, v1, cs, g1, g2, g3, g4, g5⟩ := mapL_at h5 (by simpa using he)
  exact ⟨k1, v1, cs, by simpa using g1, g2, g3, g4, by simp only [List.eraseIdx_cons_succ]; exact ⟨k, v, _, rfl, h2, h3, g5⟩⟩
theorem erase_filter {es : List MapEntry} (hn : (es.map (·.born)).Nodup) {seen : Array Nat} {j : Nat} {e : MapEntry} (h : (es.filter fun e => !seen.contains e.born)[j]? = some e) :
  (es.filter fun e' => !(seen.push e.born).contains e'.born) = (es.filter fun e => !seen.contains e.born).eraseIdx j := by
 induction es generalizing j with
 | nil => simp at h
 | cons x es ih =>
  simp only [List.map_cons, List.nodup_cons] at hn
  simp only [List.filter_cons] at h ⊢
  have hc : ∀ y : MapEntry, (seen.push e.born).contains y.born = (seen.contains y.born || (y.born == e.born)) := fun y => by
   rw [Array.contains_push]
  by_cases hx : seen.contains x.born = true
  ·simp only [hx, Bool.not_true, Bool.false_eq_true, if_false] at h ⊢
   rw [hc, hx]
   simp only [Bool.true_or, Bool.not_true, Bool.false_eq_true, if_false]
   exact ih hn.2 h
  ·have hx' : seen.contains x.born = false := by simpa using hx
   simp only [hx', Bool.not_false, if_true] at h ⊢
   rw [hc, hx']
   cases j with
   | zero =>
    simp at h
    subst h
    simp only [Bool.false_or, beq_self_eq_true, Bool.not_true, Bool.false_eq_true, if_false, List.eraseIdx_cons_zero]
    refine List.filter_congr fun y hy => ?_
    rw [hc]
    have : ¬ y.born = x.born := fun e => hn.1 (by rw [← e]; exact List.mem_map_of_mem hy)
    simp [this]
   | succ j =>
    have h' : (es.filter fun e => !seen.contains e.born)[j]? = some e := by simpa using h
    have hmem : e ∈ es := (List.mem_filter.1 (List.mem_of_getElem? h')).1
    have hne : ¬ x.born = e.born := fun he => hn.1 (by rw [he]; exact List.mem_map_of_mem hmem)
    simp only [Bool.false_or, beq_iff_eq, hne, Bool.not_eq_eq_eq_not, Bool.not_true, beq_eq_false_iff_ne, ne_eq, not_false_eq_true, if_true, List.eraseIdx_cons_succ]
    congr 1
    exact ih hn.2 h'
theorem leftE_eq (es : Array MapEntry) (seen : Array Nat) : (leftOf es seen).toList = leftE es seen := by simp [leftOf, leftE]
theorem St.setIt {r : Nat} {q : Option Nat} {ck : Nat} {seen : Array Nat} {w1 : World} (seen' : Array Nat) (st : St m (qHj r q ck seen :: own) w) (h1 : w1 = w ∨ w1 = w.drew) : St m (qHj r q ck seen' :: own) (Go.ChangeMaps.setBlock w1 r (.mapIter q ck seen' ck)) := by
 have hlt := qKt st.head.1
 refine St.set (o := .mapIter q ck seen ck) (o' := .mapIter q ck seen' ck) st ?_ ?_ ?_
 ·rcases h1 with rfl | rfl <;> exact ⟨⟨rfl, rfl⟩, rfl, dle⟩
 ·have : (w.heap.setIfInBounds r (.mapIter q ck seen' ck))[r]? = some (.mapIter q ck seen' ck) := by simp [hlt]
  rcases h1 with rfl | rfl <;> exact this
 ·intro k _ hk
  have : (w.heap.setIfInBounds r (.mapIter q ck seen' ck))[k]? = w.heap[k]? := by simp [Array.getElem?_setIfInBounds, Ne.symm hk]
  rcases h1 with rfl | rfl <;> exact this
theorem One_next {x : Operand} {r b ck : Nat} {es : Array MapEntry} {seen : Array Nat} {o : Option (List (κ × ν))} {rem : List (κ × ν)} (ho : opAt ops L i = some (some d, .next x false)) (hd : Nat.blt d n = true) (hx : evL L x = some (.pointer (some ⟨r, 0, none⟩)))
  (st : St m (qHj r (some b) ck seen :: qBo (some b) es ck :: own) w) (hq : MapQ ek c agg m (some b) es ck o) (hr : ItR ek c agg m es seen rem)
  (h0 : rem = [] → ∀ w', St m (qHj r (some b) ck seen :: qBo (some b) es ck :: own) w' → N ((d, .tuple #[.bool false]) :: L) w')
  (h1 : ∀ (e : κ × ν) (rest : List (κ × ν)) (seen' : Array Nat) (cs : List Value) (w' : World), rem.Perm (e :: rest) → c.rep m e.2 cs → St m (qHj r (some b) ck seen' :: qBo (some b) es ck :: own) w' → ItR ek c agg m es seen' rest → Ent es seen' (ek e.1) (mkV agg cs) →
   N ((d, .tuple #[.bool true, ek e.1, mkV agg cs]) :: L) w') : One P n ops Q i N L w := by
 obtain ⟨_, _, _, _, _, _, hb1, hb2⟩ := hq
 obtain ⟨l', hperm, hl⟩ := hr
 have hit : w.heap[r]? = some (.mapIter (some b) ck seen ck) := st.head.1
 have hmp : w.heap[b]? = some (.map es ck) := st.tail.head.1
 refine qLb (v := undef) (w' := w) ho hd (fun q hq => ?_)
 rcases run_next_at (P := P) w q.type r b ck ck seen es ck hit hmp hb1 (Nat.le_refl _) with ⟨hz, hrun⟩ | ⟨e, he, w1, hw1, hrun⟩
 ·have hnil : leftE es seen = [] := by rw [← leftE_eq]; exact List.eq_nil_of_length_eq_zero (by simpa using hz)
  rw [hnil] at hl
  have hl' : l' = [] := hl
  subst hl'
  refine ⟨_, w, ?_, h0 (List.nil_perm.1 hperm) w st⟩
  simp [execOp, hq, qBp hx, hrun]
 ·rw [leftE_eq] at he
  obtain ⟨j, hj⟩ := List.mem_iff_getElem?.1 he
  obtain ⟨k, v, cs, g1, g2, g3, g4, g5⟩ := mapL_at hl hj
  have hjl := (List.getElem?_eq_some_iff.1 g1).1
  have hsplit : l'.Perm ((k, v) :: l'.eraseIdx j) := by
   have e1 : l'[j] = (k, v) := (List.getElem?_eq_some_iff.1 g1).2
   have e2 : l' = l'.take j ++ (k, v) :: l'.drop (j + 1) := by rw [← e1, List.getElem_cons_drop, List.take_append_drop]
   rw [List.eraseIdx_eq_take_drop_succ]
   exact (List.Perm.of_eq e2).trans List.perm_middle
  have hmem : e ∈ es.toList := (List.mem_filter.1 he).1
  have hleft : leftE es (seen.push e.born) = (leftE es seen).eraseIdx j := erase_filter hb2 hj
  refine ⟨_, _, ?_, h1 (k, v) (l'.eraseIdx j) (seen.push e.born) cs _ (hperm.symm.trans hsplit) g3 (St.setIt _ st hw1) ⟨_, .refl _, by rw [hleft]; exact g5⟩ ⟨seen, e, rfl, hmem, g2, g4⟩⟩
  simp [execOp, hq, qBp hx, hrun, g2, g4]
theorem One_entry {x : Operand} {r b ck : Nat} {es : Array MapEntry} {seen : Array Nat} {o : Option (List (κ × ν))} {K V : Value} (ho : opAt ops L i = some (some d, .entry x)) (hd : Nat.blt d n = true) (hx : evL L x = some (.pointer (some ⟨r, 0, none⟩)))
  (st : St m (qHj r (some b) ck seen :: qBo (some b) es ck :: own) w) (hq : MapQ ek c agg m (some b) es ck o) (he : Ent es seen K V)
  (h : N ((d, .tuple #[K, V]) :: L) w) : One P n ops Q i N L w := by
 obtain ⟨_, _, _, _, _, _, hb1, hb2⟩ := hq
 obtain ⟨seen0, e, rfl, hmem, rfl, rfl⟩ := he
 have hit : w.heap[r]? = some (.mapIter (some b) ck (seen0.push e.born) ck) := st.head.1
 have hmp : w.heap[b]? = some (.map es ck) := st.tail.head.1
 have hrun := run_entry_at (P := P) w r b ck seen0 es ck e hit hmp hmem hb2
 refine qFb ho hd (fun q hq => ?_) h
 simp [execOp, hq, qBp hx, hrun]
end
end Go.Dc
