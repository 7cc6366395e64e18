/- The decompiler's rule of append: plain lists joined. The joined list takes at most 2^47 bytes. -/
import Derived.Test.YtgggihpbhmbjaaaGreatDoorMemy6
namespace Go.Dc
def qLk (P : Program) (t : TypeId) : Option (TypeId × Nat × Nat × Nat) :=
 match P.underlying t with
 | some (.slice e) => match P.info? e with
  | some i => match i.zero with
   | some z => some (e, i.size, i.bytes, z.cells.size)
   | none => none
  | none => none
 | _ => none
theorem qKj {P : Program} {t e sz by_ zs : Nat} (h : qLk P t = some (e, sz, by_, zs)) :
  P.underlying t = some (.slice e) ∧ ∃ i z, P.info? e = some i ∧ i.zero = some z ∧ i.size = sz ∧ i.bytes = by_ ∧ z.cells.size = zs := by
 unfold qLk at h
 split at h
 ·rename_i e' he
  split at h
  ·rename_i i hi
   split at h
   ·rename_i z hz
    simp only [Option.some.injEq, Prod.mk.injEq] at h
    obtain ⟨rfl, h2, h3, h4⟩ := h
    exact ⟨he, i, z, hi, hz, h2, h3, h4⟩
   ·cases h
  ·cases h
 ·cases h
def srcOK (P : Program) (u e : TypeId) : Prop := P.underlying u = some (.slice e) ∨ P.underlying u = some .string
theorem qLu (g o j : Nat) : (⟨g, o, none⟩ : Addr).add j = ⟨g, o + j, none⟩ := by unfold Addr.add; split <;> simp_all
theorem qMp {p : Addr} (hs : p.spot = none) (j : Nat) : p.add j = ⟨p.block, p.off + j, none⟩ := by
 obtain ⟨b, o, s⟩ := p
 simp only at hs; subst hs
 exact qLu b o j
section
variable {P : Program}
def Src (P : Program) (w : World) (sz : Nat) (x : Value) (n : Nat) (news : List Value) : Prop :=
 (Builtin.lenOf x).run P w = .ok n w ∧ (Builtin.firstCells sz n x).run P w = .ok news.toArray w ∧ news.length = n * sz ∧ ∀ v ∈ news, v.oneCell' = true
theorem qNf (w : World) (t u ty e : TypeId) (i : TypeInfo) (ht : P.underlying t = some (.slice e)) (hu : srcOK P u e) (hi : P.info? e = some i) {x : Value} {n : Nat} {news : List Value}
  (hsrc : Src P w i.size x n news) (g sLen sCap : Nat) (cur : Array Value) (hg : w.heap[g]? = some (.cells cur e (0, 0))) (hroom : sLen + n ≤ sCap) (hfit : sLen * i.size + news.length ≤ cur.size) :
  (Builtin.append_ #[t, u] ty #[.slice (some ⟨g, 0, none⟩) sLen sCap, x]).run P w =
   .ok (.slice (some ⟨g, 0, none⟩) (sLen + n) sCap) (w.setRow g (cur.toList.take (sLen * i.size) ++ news ++ cur.toList.drop (sLen * i.size + news.length)).toArray) := by
 obtain ⟨h1, h2, h3, h4⟩ := hsrc
 have hst := run_storeCells_at P g (sLen * i.size) e news 0 cur w hg (by simpa using hfit) h4
 simp only [Nat.add_zero] at hst
 rcases hu with hdu | hdu <;> simp [Builtin.append_, run_underlying ht, run_underlying hdu, sizeOf, typeInfo, hi, h1, hroom, h2, qLu, hst]
theorem qLh (w : World) (t u ty e : TypeId) (i : TypeInfo) (ht : P.underlying t = some (.slice e)) (hu : srcOK P u e) (hi : P.info? e = some i) {x : Value} {news : List Value}
  (hsrc : Src P w i.size x 0 news) : (Builtin.append_ #[t, u] ty #[.slice none 0 0, x]).run P w = .ok (.slice none 0 0) w := by
 obtain ⟨h1, h2, h3, h4⟩ := hsrc
 rcases hu with hdu | hdu <;> simp [Builtin.append_, run_underlying ht, run_underlying hdu, sizeOf, typeInfo, hi, h1, h2]
theorem qMe (w : World) (t u ty e : TypeId) (i : TypeInfo) (z : Value) (ht : P.underlying t = some (.slice e)) (hu : srcOK P u e) (hi : P.info? e = some i) (hz : i.zero = some z) {x : Value} {n : Nat} {news : List Value}
  (hsrc : Src P w i.size x n news) (base : Option Addr) (sLen sCap : Nat) (olds : List Value)
  (hold : ∀ w' : World, Step w w' → w'.heap = w.heap → (Builtin.firstCells i.size sLen (.slice base sLen sCap)).run P w' = .ok olds.toArray w')
  (hsrc' : ∀ w' : World, Step w w' → w'.heap = w.heap → (Builtin.firstCells i.size n x).run P w' = .ok news.toArray w')
  (hg : sCap < sLen + n) (hb : (sLen + n) * i.bytes ≤ 140737488355328) (h63 : sLen + n ≤ maxLen) :
  (Builtin.append_ #[t, u] ty #[.slice base sLen sCap, x]).run P w =
   .ok (.slice (some ⟨w.heap.size, 0, none⟩) (sLen + n) (grownCap w (sLen + n) sCap e))
    (w.drew.alloc (.cells ((olds ++ news).toArray ++ Builtin.zeroCells z.cells (grownCap w (sLen + n) sCap e - (sLen + n))) e)) := by
 obtain ⟨h1, h2, h3, h4⟩ := hsrc
 have hn : ¬ (sLen + n ≤ sCap) := by omega
 have h63' : ¬ (9223372036854775807 < (sLen : Int) + (n : Int)) := by simp only [maxLen] at h63; omega
 have hfit := growslice_fits (need := sLen + n) (old := sCap) (bytes := i.bytes) hg hb
 have hfit' : ¬ (281474976710656 < Builtin.nextslicecap (sLen + n) sCap * i.bytes) := by omega
 have hmax : IntKind.i64.max = 9223372036854775807 := by decide
 have ho := hold w.drew ⟨⟨rfl, rfl⟩, rfl, dle⟩ rfl
 have hs := hsrc' w.drew ⟨⟨rfl, rfl⟩, rfl, dle⟩ rfl
 have hforced : (Question.appendCap (sLen + n) sCap e).forced = false := rfl
 rcases hu with hdu | hdu <;>
  simp [Builtin.append_, run_underlying ht, run_underlying hdu, sizeOf, typeInfo, zeroValue, hi, hz, h1, hn, h63', hfit', hmax, hforced, ho, hs, newRow, grownCap] <;> (congr 2; apply Array.ext'; simp)
def qEo {α : Type} (by_ : Nat) (l k : List α) : Option (List α) := if (l.length + k.length) * by_ ≤ 140737488355328 ∧ l.length + k.length ≤ maxLen then some (l ++ k) else none
theorem RepS.of_cells {α : Type} {c : Codec α} {m : Mem} {b cap : Nat} {l : List α} {cs : List Value} (h1 : l.length ≤ cap) (h2 : cap ≤ maxLen)
  (h3 : ∀ i x, l[i]? = some x → c.rep m x ((cs.drop (i * c.sz)).take c.sz)) (h4 : MRow m b 0 cs) : RepS c m (some ⟨b, 0, none⟩) cap l := by
 refine ⟨h1, h2, .inl rfl, fun i x hx => ⟨_, h3 i x hx, ?_⟩⟩
 intro j v hv
 rw [List.getElem?_take] at hv
 split at hv
 ·rw [List.getElem?_drop] at hv
  have := h4 _ v hv
  simp only [Nat.zero_add] at this ⊢
  exact this
 ·cases hv
theorem RepS.cellsA {α : Type} {c : Codec α} {m : Mem} {a : Option Addr} {cap : Nat} {l : List α} (h : RepS c m a cap l) :
  ∃ cs, cs.length = l.length * c.sz ∧ (∀ v ∈ cs, v.oneCell' = true) ∧ (∀ p, a = some p → MRow m p.block p.off cs) ∧ ∀ i x, l[i]? = some x → c.rep m x ((cs.drop (i * c.sz)).take c.sz) := by
 cases a with
 | none =>
  obtain ⟨h1, _, h3⟩ := h
  have : l = [] := List.eq_nil_of_length_eq_zero (by simp only at h3; omega)
  subst this
  exact ⟨[], by simp, by simp, by simp, by simp⟩
 | some p =>
  obtain ⟨cs, h1, h2, h3, h4⟩ := h.cells
  exact ⟨cs, h1, h2, fun q hq => by cases hq; exact h3, h4⟩
theorem Inv.cell {m : Mem} {w : World} (h : Inv m w) {b o : Nat} {v : Value} (hv : m.cell b o = some v) : w.cell? ⟨b, o, none⟩ = some v := by
 obtain ⟨c, e, f, hb, hc⟩ := h.1 b o v hv
 simp [World.cell?, hb, hc]
theorem first_of {m : Mem} {w : World} (hi : Inv m w) {a : Option Addr} {n cap sz : Nat} {cs : List Value} (hl : cs.length = n * sz) (hs : ∀ p, a = some p → (p.spot = none ∨ cs = []) ∧ MRow m p.block p.off cs) (ha : a = none → cs = []) :
  (Builtin.firstCells sz n (.slice a n cap)).run P w = .ok cs.toArray w := by
 cases a with
 | none => rw [ha rfl]; simp [Builtin.firstCells]
 | some p =>
  obtain ⟨h1, h2⟩ := hs p rfl
  exact run_firstCells_some w sz n p n cap cs hl fun j v hv => by
   rcases h1 with h1 | h1
   ·rw [qMp h1]; exact hi.cell (h2 j v hv)
   ·subst h1; simp at hv
theorem RepS.none_nil {α : Type} {c : Codec α} {m : Mem} {cap : Nat} {l : List α} (h : RepS c m none cap l) : l = [] ∧ cap = 0 := by
 obtain ⟨h1, _, h3⟩ := h
 simp only at h3
 exact ⟨List.eq_nil_of_length_eq_zero (by omega), h3⟩
theorem RepS.spot {α : Type} {c : Codec α} {m : Mem} {p : Addr} {cap : Nat} {l : List α} (h : RepS c m (some p) cap l) (hn : l ≠ []) : p.spot = none := h.2.2.1.resolve_right hn
def Gives {α : Type} (P : Program) (c : Codec α) (m : Mem) (x : Value) (k : List α) : Prop :=
 ∃ cs, (∀ w : World, Inv m w → Src P w c.sz x k.length cs) ∧ (∀ i y, k[i]? = some y → c.rep m y ((cs.drop (i * c.sz)).take c.sz))
theorem RepS.src {α : Type} {c : Codec α} {m : Mem} {a : Option Addr} {cap : Nat} {l : List α} (h : RepS c m a cap l) : Gives P c m (.slice a l.length cap) l := by
 obtain ⟨cs, h1, h2, h3, h4⟩ := h.cellsA
 refine ⟨cs, fun w hi => ⟨by simp [Builtin.lenOf], first_of hi h1 (fun p hp => ?_) (fun ha => ?_), h1, h2⟩, h4⟩
 ·subst hp; exact ⟨h.2.2.1.imp id (fun e => by subst e; exact List.eq_nil_of_length_eq_zero (by simpa using h1)), h3 p rfl⟩
 ·subst ha; obtain ⟨rfl, rfl⟩ := h.none_nil; exact List.eq_nil_of_length_eq_zero (by simpa using h1)
theorem rep_join {α : Type} {c : Codec α} {m : Mem} {l k : List α} {c1 c2 : List Value} (hl : c1.length = l.length * c.sz)
  (h1 : ∀ i x, l[i]? = some x → c.rep m x ((c1.drop (i * c.sz)).take c.sz)) (h2 : ∀ i x, k[i]? = some x → c.rep m x ((c2.drop (i * c.sz)).take c.sz)) :
  ∀ i x, (l ++ k)[i]? = some x → c.rep m x (((c1 ++ c2).drop (i * c.sz)).take c.sz) := by
 intro i x hx
 rw [List.getElem?_append] at hx
 split at hx
 ·rename_i hi
  have hle : i * c.sz + c.sz ≤ c1.length := by
   rw [hl]
   calc i * c.sz + c.sz = (i + 1) * c.sz := by rw [Nat.add_mul, Nat.one_mul]
    _ ≤ l.length * c.sz := Nat.mul_le_mul_right _ hi
  have : ((c1 ++ c2).drop (i * c.sz)).take c.sz = (c1.drop (i * c.sz)).take c.sz := by
   rw [List.drop_append_of_le_length (by omega), List.take_append_of_le_length (by simp; omega)]
  rw [this]; exact h1 i x hx
 ·rename_i hi
  have hle : c1.length ≤ i * c.sz := by rw [hl]; exact Nat.mul_le_mul_right _ (by omega)
  have : (c1 ++ c2).drop (i * c.sz) = c2.drop ((i - l.length) * c.sz) := by
   rw [List.drop_append, List.drop_eq_nil_of_le hle, List.nil_append, hl, Nat.sub_mul]
  rw [this]; exact h2 _ x hx
theorem take_row {m : Mem} {w : World} (hi : Inv m w) {b : Nat} {cs : List Value} (hm : MRow m b 0 cs) {cur : Array Value} {e : TypeId} {f : Nat × Nat} (hb : w.heap[b]? = some (.cells cur e f)) : cur.toList.take cs.length = cs := by
 apply List.ext_getElem?
 intro j
 rw [List.getElem?_take]
 by_cases hj : j < cs.length
 ·rw [if_pos hj]
  have := hm j cs[j] (by simp [hj])
  obtain ⟨c, e', f', h1, h2⟩ := hi.1 _ _ _ this
  rw [hb] at h1
  simp only [Option.some.injEq, Obj.cells.injEq] at h1
  obtain ⟨rfl, _, _⟩ := h1
  simp only [Nat.zero_add] at h2
  simp [h2, hj]
 ·rw [if_neg hj]; simp [Nat.le_of_not_lt hj]
theorem St.know {m : Mem} {own : List Piece} {w : World} {b : Nat} {cs : List Value} {cur : Array Value} {e : TypeId} {f : Nat × Nat} (h : St m own w) (hb : b ∉ own.filterMap Piece.block)
  (hw : w.heap[b]? = some (.cells cur e f)) (ht : cur.toList.take cs.length = cs) (hold : ∀ o v, m.cell b o = some v → cs[o]? = some v) :
  ∃ m', m.le m' ∧ St m' own w ∧ MRow m' b 0 cs ∧ (∀ o, cs.length ≤ o → m'.cell b o = none) ∧ m'.obj = m.obj ∧ ∀ k, k ≠ b → m'.cell k = m.cell k := by
 refine ⟨m.addCells b (fun o => cs[o]?), m.le_addCells b _, h.addCells hb ?_, ?_, ?_, rfl, ?_⟩
 ·intro o v hv
  refine ⟨cur, e, f, hw, ?_⟩
  rw [← ht, List.getElem?_take] at hv
  split at hv
  ·simpa using hv
  ·cases hv
 ·intro j v hv
  simp only [Mem.addCells, Nat.zero_add, if_true]
  cases hc : m.cell b j with
  | none => simp [hv]
  | some u => have := hold j u hc; rw [hv] at this; simp_all
 ·intro o ho
  simp only [Mem.addCells, if_true]
  cases hc : m.cell b o with
  | none => simp [ho]
  | some u =>
   have := hold o u hc
   have hlt := (List.getElem?_eq_some_iff.1 this).1
   omega
 ·intro k hk; funext o; simp [Mem.addCells, hk]
theorem run_appendS {α : Type} {c : Codec α} {m : Mem} {own : List Piece} {w : World} {t u ty e by_ : Nat} (hinfo : qLk P t = some (e, c.sz, by_, c.sz)) (hu : srcOK P u e)
  {a : Option Addr} {cap : Nat} {l k r : List α} {x : Value} (hst : St m (.room a l.length cap e c.sz :: own) w) (hr : RepS c m a cap l)
  (hx : Gives P c m x k)
  (hs : qEo by_ l k = some r) :
  ∃ a' cap' m' w', (Builtin.append_ #[t, u] ty #[.slice a l.length cap, x]).run P w = .ok (.slice a' r.length cap') w' ∧ m.le m' ∧ St m' (.room a' r.length cap' e c.sz :: own) w' ∧ RepS c m' a' cap' r := by
 obtain ⟨ht, i, z, hi, hz, hsz, hby, hzs⟩ := qKj hinfo
 unfold qEo at hs
 split at hs
 ·rename_i hfit
  simp only [Option.some.injEq] at hs
  subst hs
  obtain ⟨hfit, h63⟩ := hfit
  have hinv := hst.inv
  obtain ⟨cs2, hsrcs, hrep2⟩ := hx
  have hsrc := hsrcs w hinv
  obtain ⟨cs1, hl1, ho1, hm1, hrep1⟩ := hr.cellsA
  have hl2 : cs2.length = k.length * c.sz := hsrc.2.2.1
  have hlen : (cs1 ++ cs2).length = (l ++ k).length * c.sz := by simp [hl1, hl2, Nat.add_mul]
  have hjoin : ∀ m', m.le m' → ∀ i y, (l ++ k)[i]? = some y → c.rep m' y (((cs1 ++ cs2).drop (i * c.sz)).take c.sz) := fun m' hle =>
   rep_join hl1 (fun i y hy => c.mono _ _ _ _ hle (hrep1 i y hy)) (fun i y hy => c.mono _ _ _ _ hle (hrep2 i y hy))
  have htail := hst.tail
  -- a new block
  have out : cap < l.length + k.length → (∀ w' : World, Step w w' → w'.heap = w.heap → (Builtin.firstCells i.size l.length (.slice a l.length cap)).run P w' = .ok cs1.toArray w') →
    ∃ a' cap' m' w', (Builtin.append_ #[t, u] ty #[.slice a l.length cap, x]).run P w = .ok (.slice a' (l ++ k).length cap') w' ∧ m.le m' ∧ St m' (.room a' (l ++ k).length cap' e c.sz :: own) w' ∧ RepS c m' a' cap' (l ++ k) := by
   intro hlt hold
   have hinv' : ∀ w' : World, Step w w' → w'.heap = w.heap → Inv m w' := fun w' hs hw => hinv.keep hs (fun b _ _ => by rw [hw])
   have hrun := qMe w t u ty e i z ht hu hi hz (n := k.length) (news := cs2) (by rw [hsz]; exact hsrc) a l.length cap cs1 hold
    (fun w' hs hw => by rw [hsz]; exact (hsrcs w' (hinv' w' hs hw)).2.1) hlt (by rw [hby]; exact hfit) h63
   generalize hgc : grownCap w (l.length + k.length) cap e = gc at hrun
   have hge : l.length + k.length ≤ gc := hgc ▸ grownCap_ge _ _ _ _
   have hgm : gc ≤ maxLen := hgc ▸ grownCap_le_maxLen _ _ _ _ h63
   generalize hcur : (cs1 ++ cs2).toArray ++ Builtin.zeroCells z.cells (gc - (l.length + k.length)) = cur at hrun
   have hcs : cur.size = gc * c.sz := by
    rw [← hcur]
    simp only [Array.size_append, List.size_toArray, size_zeroCells, hzs, hlen, List.length_append, ← Nat.add_mul]
    congr 1; omega
   have hal := htail.alloc (w' := w.drew.alloc (.cells cur e)) (o := .cells cur e) ⟨⟨rfl, rfl⟩, rfl, dle⟩ rfl
   have htk : cur.toList.take (cs1 ++ cs2).length = cs1 ++ cs2 := by rw [← hcur, Array.toList_append, List.toList_toArray, List.take_left]
   have hfresh := htail.fresh_free
   obtain ⟨m', hle, hst', hrow, hno, hobj, hoth⟩ := St.know (b := w.heap.size) hal.tail (hal.head_ne rfl) hal.head.1 htk (fun o v hv => by rw [hfresh.1 o] at hv; cases hv)
   refine ⟨some ⟨w.heap.size, 0, none⟩, gc, m', w.drew.alloc (.cells cur e), by rw [hrun, List.length_append], hle, ?_, RepS.of_cells (by simpa using hge) hgm (hjoin m' hle) hrow⟩
   refine hst'.cons ⟨rfl, rfl, by simpa using hge, hgm, ⟨cur, hal.head.1, hcs⟩, ?_, ?_⟩ ?_
   ·intro o ho; exact hno o (by rw [hlen]; exact ho)
   ·rw [hobj]; exact hfresh.2
   ·intro b hb
    simp only [Piece.block, Option.map_some, Option.some.injEq] at hb
    subst hb
    exact hal.head_ne rfl
  cases a with
  | none =>
   obtain ⟨rfl, rfl⟩ := hr.none_nil
   have hc1 : cs1 = [] := List.eq_nil_of_length_eq_zero (by simpa using hl1)
   subst hc1
   by_cases hk : k.length = 0
   ·have hkn : k = [] := List.eq_nil_of_length_eq_zero hk
    subst hkn
    refine ⟨none, 0, m, w, ?_, m.le_refl, hst, hr⟩
    have := qLh w t u ty e i ht hu hi (x := x) (news := cs2) (by rw [hsz]; exact hsrc)
    simpa using this
   ·exact out (by simp; omega) (fun w' _ _ => by simp [Builtin.firstCells])
  | some p =>
   obtain ⟨h1, h2, h3, h4, ⟨cur, h5, h6⟩, h7, h8⟩ := hst.head
   obtain ⟨g, off, spot⟩ := p
   simp only at h1 h2 h5 h7 h8
   subst h1; subst h2
   have hrow1 := hm1 _ rfl
   simp only at hrow1
   by_cases hroom : l.length + k.length ≤ cap
   ·have hfit2 : l.length * i.size + cs2.length ≤ cur.size := by rw [hl2, h6, hsz, ← Nat.add_mul]; exact Nat.mul_le_mul_right _ hroom
    have hrun := qNf w t u ty e i ht hu hi (x := x) (n := k.length) (news := cs2) (by rw [hsz]; exact hsrc) g l.length cap cur h5 hroom hfit2
    rw [hsz, ← hl1] at hrun
    rw [take_row hinv hrow1 h5] at hrun
    generalize hw' : w.setRow g (cs1 ++ cs2 ++ cur.toList.drop (cs1.length + cs2.length)).toArray = w' at hrun
    have hnew : w'.heap[g]? = some (.cells (cs1 ++ cs2 ++ cur.toList.drop (cs1.length + cs2.length)).toArray e (0, 0)) := by rw [← hw']; exact setRow_heap w g cur _ e _ h5
    have hoth : ∀ b, b ≠ g → w'.heap[b]? = w.heap[b]? := fun b hb => by rw [← hw']; exact setRow_other w g b _ hb
    have hcs : (cs1 ++ cs2 ++ cur.toList.drop (cs1.length + cs2.length)).toArray.size = cap * c.sz := by
     simp only [List.size_toArray, List.length_append, List.length_drop, Array.length_toList]
     have : l.length * c.sz + k.length * c.sz ≤ cap * c.sz := by rw [← Nat.add_mul]; exact Nat.mul_le_mul_right _ hroom
     omega
    have hne := hst.head_ne (b := g) rfl
    have hst1 : St m own w' := by
     refine ⟨?_, fun q hq => Piece.holds_keep (htail.2.1 q hq) (fun b hb => hoth b ?_), htail.2.2⟩
     ·refine ⟨?_, ?_, hinv.2.2.trans (by rw [← hw']; exact ⟨⟨rfl, rfl⟩, rfl, dle⟩)⟩
      ·intro b o v hv
       by_cases hb : b = g
       ·subst hb
        refine ⟨_, e, (0, 0), hnew, ?_⟩
        by_cases ho : o < l.length * c.sz
        ·obtain ⟨cc, e', f', hcc, hco⟩ := hinv.1 b o v hv
         rw [h5] at hcc
         simp only [Option.some.injEq, Obj.cells.injEq] at hcc
         obtain ⟨rfl, _, _⟩ := hcc
         have hlt : o < cs1.length := by rw [hl1]; exact ho
         have htk := take_row hinv hrow1 h5
         have : cs1[o]? = some v := by
          rw [← htk, List.getElem?_take, if_pos hlt]
          simpa using hco
         simp only [List.getElem?_toArray, List.append_assoc, List.getElem?_append, if_pos hlt]
         exact this
        ·rw [h7 o (by omega)] at hv; cases hv
       ·obtain ⟨cc, e', f', hcc, hco⟩ := hinv.1 b o v hv
        exact ⟨cc, e', f', by rw [hoth b hb]; exact hcc, hco⟩
      ·intro b y hy
       have : b ≠ g := by rintro rfl; rw [h8] at hy; cases hy
       rw [hoth b this]; exact hinv.2.1 b y hy
     ·rintro rfl; exact hne (mem_block.2 ⟨q, hq, hb⟩)
    obtain ⟨m', hle, hst', hrow, hno, hobj, _⟩ := St.know (b := g) (cs := cs1 ++ cs2) hst1 hne hnew (by rw [List.toList_toArray, List.take_left]) (fun o v hv => by
     by_cases ho : o < l.length * c.sz
     ·have hlt : o < cs1.length := by rw [hl1]; exact ho
      have := hrow1 o cs1[o] (by simp [hlt])
      simp only [Nat.zero_add] at this
      rw [this] at hv
      simp only [List.getElem?_append, if_pos hlt]
      rw [← hv]; simp [hlt]
     ·rw [h7 o (by omega)] at hv; cases hv)
    refine ⟨some ⟨g, 0, none⟩, cap, m', w', by rw [hrun, List.length_append], hle, ?_, RepS.of_cells (by simpa using hroom) h4 (hjoin m' hle) hrow⟩
    refine hst'.cons ⟨rfl, rfl, by simpa using hroom, h4, ⟨_, hnew, hcs⟩, ?_, ?_⟩ ?_
    ·intro o ho; exact hno o (by rw [hlen]; exact ho)
    ·rw [hobj]; exact h8
    ·intro b hb
     simp only [Piece.block, Option.map_some, Option.some.injEq] at hb
     subst hb; exact hne
   ·exact out (by omega) (fun w' hs hw => by
     have hinv' : Inv m w' := hinv.keep hs (fun b _ _ => by rw [hw])
     rw [hsz]
     exact first_of hinv' hl1 (fun p hp => by cases hp; exact ⟨.inl rfl, hrow1⟩) (fun h => by cases h))
 ·cases hs
end
end Go.Dc
