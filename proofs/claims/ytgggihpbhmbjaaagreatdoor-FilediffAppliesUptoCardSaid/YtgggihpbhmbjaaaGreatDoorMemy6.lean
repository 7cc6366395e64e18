/- The memory of the decompiler: what never changes any more (Mem), what is owned (Piece), how Go's data stand for plain data (Codec, RepS). No condition. -/
import Derived.Test.YtgggihpbhmbjaaaGreatDoorBasey6
namespace Go.Dc
structure Mem where
 cell : Nat → Nat → Option Value
 obj : Nat → Option Obj
 wd : World
def Step (w w' : World) : Prop := (w'.os = w.os ∧ w'.output = w.output) ∧ w'.tape = w.tape ∧ w.drawn ≤ w'.drawn
theorem dle {p : Prop} (h : p := by first | exact Nat.le_refl _ | exact Nat.le_succ _) : p := h
theorem Step.refl (w : World) : Step w w := ⟨⟨rfl, rfl⟩, rfl, dle⟩
theorem Step.trans {w1 w2 w3 : World} (h1 : Step w1 w2) (h2 : Step w2 w3) : Step w1 w3 := ⟨⟨h2.1.1.trans h1.1.1, h2.1.2.trans h1.1.2⟩, h2.2.1.trans h1.2.1, Nat.le_trans h1.2.2 h2.2.2⟩
def Mem.le (m m' : Mem) : Prop := (∀ b o v, m.cell b o = some v → m'.cell b o = some v) ∧ (∀ b x, m.obj b = some x → m'.obj b = some x) ∧ m.wd = m'.wd
theorem Mem.le_refl (m : Mem) : m.le m := ⟨fun _ _ _ h => h, fun _ _ h => h, rfl⟩
theorem Mem.le_trans {m1 m2 m3 : Mem} (h1 : m1.le m2) (h2 : m2.le m3) : m1.le m3 := ⟨fun _ _ _ h => h2.1 _ _ _ (h1.1 _ _ _ h), fun _ _ h => h2.2.1 _ _ (h1.2.1 _ _ h), h1.2.2.trans h2.2.2⟩
def Inv (m : Mem) (w : World) : Prop :=
 (∀ b o v, m.cell b o = some v → ∃ c e f, w.heap[b]? = some (.cells c e f) ∧ c[o]? = some v) ∧ (∀ b x, m.obj b = some x → w.heap[b]? = some x) ∧ Step m.wd w
inductive Piece where
 | blk (b : Nat) (o : Obj)
 | room (a : Option Addr) (n cap : Nat) (e : TypeId) (sz : Nat)
def Piece.block : Piece → Option Nat
 | .blk b _ => some b
 | .room a _ _ _ _ => a.map (·.block)
def Free (m : Mem) (b : Nat) : Prop := (∀ o, m.cell b o = none) ∧ m.obj b = none
def Piece.holds (m : Mem) (w : World) : Piece → Prop
 | .blk b o => w.heap[b]? = some o ∧ Free m b
 | .room none n cap _ _ => n = 0 ∧ cap = 0
 | .room (some p) n cap e sz => p.off = 0 ∧ p.spot = none ∧ n ≤ cap ∧ cap ≤ maxLen ∧ (∃ cur, w.heap[p.block]? = some (.cells cur e (0, 0)) ∧ cur.size = cap * sz) ∧
   (∀ o, n * sz ≤ o → m.cell p.block o = none) ∧ m.obj p.block = none
def St (m : Mem) (own : List Piece) (w : World) : Prop := Inv m w ∧ (∀ p ∈ own, p.holds m w) ∧ (own.filterMap Piece.block).Nodup
theorem qKt {w : World} {b : Nat} {x : Obj} (h : w.heap[b]? = some x) : b < w.heap.size := (Array.getElem?_eq_some_iff.1 h).1
theorem Piece.holds_lt {m : Mem} {w : World} {p : Piece} (h : p.holds m w) {b : Nat} (hb : p.block = some b) : b < w.heap.size := by
 cases p with
 | blk c o => simp [Piece.block] at hb; subst hb; exact qKt h.1
 | room a n cap e sz =>
  cases a with
  | none => simp [Piece.block] at hb
  | some q => simp [Piece.block] at hb; subst hb; obtain ⟨_, _, _, _, ⟨cur, hc, _⟩, _⟩ := h; exact qKt hc
theorem St.inv {m : Mem} {own : List Piece} {w : World} (h : St m own w) : Inv m w := h.1
theorem St.fresh_free {m : Mem} {own : List Piece} {w : World} (h : St m own w) : Free m w.heap.size := by
 constructor
 ·intro o
  cases hc : m.cell w.heap.size o with
  | none => rfl
  | some v =>
   obtain ⟨c, e, f, hb, _⟩ := h.1.1 _ _ _ hc
   have := qKt hb; omega
 ·cases hc : m.obj w.heap.size with
  | none => rfl
  | some x => have := qKt (h.1.2.1 _ _ hc); omega
theorem Inv.keep {m : Mem} {w w' : World} (h : Inv m w) (hs : Step w w') (hk : ∀ b, (∃ x, w.heap[b]? = some x) → ¬ Free m b → w'.heap[b]? = w.heap[b]?) : Inv m w' := by
 refine ⟨?_, ?_, h.2.2.trans hs⟩
 ·intro b o v hv
  obtain ⟨c, e, f, hb, hc⟩ := h.1 b o v hv
  exact ⟨c, e, f, by rw [hk b ⟨_, hb⟩ (fun hf => by rw [hf.1 o] at hv; cases hv)]; exact hb, hc⟩
 ·intro b x hx
  have hb := h.2.1 b x hx
  rw [hk b ⟨_, hb⟩ (fun hf => by rw [hf.2] at hx; cases hx)]; exact hb
theorem Piece.holds_keep {m : Mem} {w w' : World} {p : Piece} (h : p.holds m w) (hk : ∀ b, p.block = some b → w'.heap[b]? = w.heap[b]?) : p.holds m w' := by
 cases p with
 | blk c o => exact ⟨by rw [hk c rfl]; exact h.1, h.2⟩
 | room a n cap e sz =>
  cases a with
  | none => exact h
  | some q =>
   obtain ⟨h1, h2, h3, h4, ⟨cur, h5, h6⟩, h7⟩ := h
   exact ⟨h1, h2, h3, h4, ⟨cur, by rw [hk _ rfl]; exact h5, h6⟩, h7⟩
theorem St.grow {m : Mem} {own : List Piece} {w w' : World} (h : St m own w) (hs : Step w w') (hk : ∀ b, b < w.heap.size → w'.heap[b]? = w.heap[b]?) : St m own w' :=
 ⟨h.1.keep hs fun b ⟨_, hx⟩ _ => hk b (qKt hx), fun p hp => Piece.holds_keep (h.2.1 p hp) fun b hb => hk b (Piece.holds_lt (h.2.1 p hp) hb), h.2.2⟩
theorem mem_block {own : List Piece} {b : Nat} : b ∈ own.filterMap Piece.block ↔ ∃ p ∈ own, p.block = some b := by simp [List.mem_filterMap]
theorem St.block_lt {m : Mem} {own : List Piece} {w : World} (h : St m own w) {b : Nat} (hb : b ∈ own.filterMap Piece.block) : b < w.heap.size := by
 obtain ⟨p, hp, hpb⟩ := mem_block.1 hb
 exact Piece.holds_lt (h.2.1 p hp) hpb
theorem St.alloc {m : Mem} {own : List Piece} {w w' : World} (h : St m own w) {o : Obj} (hs : Step w w') (hw : w'.heap = w.heap.push o) : St m (.blk w.heap.size o :: own) w' := by
 have hg := h.grow (w' := w') hs (fun b hb => by rw [hw, Array.getElem?_push]; simp [Nat.ne_of_lt hb])
 refine ⟨hg.1, ?_, ?_⟩
 ·intro p hp
  rcases List.mem_cons.1 hp with rfl | hp
  ·exact ⟨by rw [hw]; simp, h.fresh_free⟩
  ·exact hg.2.1 p hp
 ·have hd : List.filterMap Piece.block (.blk w.heap.size o :: own) = w.heap.size :: own.filterMap Piece.block := rfl
  rw [hd, List.nodup_cons]
  exact ⟨fun hm => by have := h.block_lt hm; omega, h.2.2⟩
theorem St.tail {m : Mem} {p : Piece} {own : List Piece} {w : World} (h : St m (p :: own) w) : St m own w := by
 refine ⟨h.1, fun q hq => h.2.1 q (List.mem_cons_of_mem _ hq), ?_⟩
 have := h.2.2
 cases hb : p.block with
 | none => simpa [List.filterMap_cons, hb] using this
 | some b => simp only [List.filterMap_cons, hb, List.nodup_cons] at this; exact this.2
theorem St.head {m : Mem} {p : Piece} {own : List Piece} {w : World} (h : St m (p :: own) w) : p.holds m w := h.2.1 p (List.mem_cons_self ..)
theorem St.head_ne {m : Mem} {p : Piece} {own : List Piece} {w : World} (h : St m (p :: own) w) {b : Nat} (hb : p.block = some b) : b ∉ own.filterMap Piece.block := by
 have := h.2.2
 simp only [List.filterMap_cons, hb, List.nodup_cons] at this
 exact this.1
theorem St.cons {m : Mem} {p : Piece} {own : List Piece} {w : World} (h : St m own w) (hp : p.holds m w) (hn : ∀ b, p.block = some b → b ∉ own.filterMap Piece.block) : St m (p :: own) w := by
 refine ⟨h.1, fun q hq => ?_, ?_⟩
 ·rcases List.mem_cons.1 hq with rfl | hq
  ·exact hp
  ·exact h.2.1 q hq
 ·cases hb : p.block with
  | none => simpa [List.filterMap_cons, hb] using h.2.2
  | some b => simp only [List.filterMap_cons, hb, List.nodup_cons]; exact ⟨hn b hb, h.2.2⟩
theorem St.perm {m : Mem} {own own' : List Piece} {w : World} (h : St m own w) (hp : own.Perm own') : St m own' w :=
 ⟨h.1, fun p hm => h.2.1 p (hp.mem_iff.2 hm), (hp.filterMap _).nodup_iff.1 h.2.2⟩
theorem St.front1 {m : Mem} {a b : Piece} {own : List Piece} {w : World} (h : St m (a :: b :: own) w) : St m (b :: a :: own) w := h.perm (.swap b a own)
theorem St.front2 {m : Mem} {a b c : Piece} {own : List Piece} {w : World} (h : St m (a :: b :: c :: own) w) : St m (c :: a :: b :: own) w :=
 h.perm ((List.Perm.cons a (.swap c b own)).trans (.swap c a _))
theorem St.front3 {m : Mem} {a b c d : Piece} {own : List Piece} {w : World} (h : St m (a :: b :: c :: d :: own) w) : St m (d :: a :: b :: c :: own) w :=
 h.perm (((List.Perm.cons a ((List.Perm.cons b (.swap d c own)).trans (.swap d b _)))).trans (.swap d a _))
theorem St.front4 {m : Mem} {a b c d e : Piece} {own : List Piece} {w : World} (h : St m (a :: b :: c :: d :: e :: own) w) : St m (e :: a :: b :: c :: d :: own) w := by
 refine h.perm ?_
 have : List.Perm (b :: c :: d :: e :: own) (e :: b :: c :: d :: own) := (List.Perm.cons b ((List.Perm.cons c (.swap e d own)).trans (.swap e c _))).trans (.swap e b _)
 exact (List.Perm.cons a this).trans (.swap e a _)
theorem St.front5 {m : Mem} {p0 p1 p2 p3 p4 p5 : Piece} {own : List Piece} {w : World} (h : St m (p0 :: p1 :: p2 :: p3 :: p4 :: p5 :: own) w) : St m (p5 :: p0 :: p1 :: p2 :: p3 :: p4 :: own) w :=
 h.perm (List.perm_middle (a := p5) (l₁ := [p0, p1, p2, p3, p4]) (l₂ := own))
theorem St.front6 {m : Mem} {p0 p1 p2 p3 p4 p5 p6 : Piece} {own : List Piece} {w : World} (h : St m (p0 :: p1 :: p2 :: p3 :: p4 :: p5 :: p6 :: own) w) : St m (p6 :: p0 :: p1 :: p2 :: p3 :: p4 :: p5 :: own) w :=
 h.perm (List.perm_middle (a := p6) (l₁ := [p0, p1, p2, p3, p4, p5]) (l₂ := own))
theorem St.front7 {m : Mem} {p0 p1 p2 p3 p4 p5 p6 p7 : Piece} {own : List Piece} {w : World} (h : St m (p0 :: p1 :: p2 :: p3 :: p4 :: p5 :: p6 :: p7 :: own) w) : St m (p7 :: p0 :: p1 :: p2 :: p3 :: p4 :: p5 :: p6 :: own) w :=
 h.perm (List.perm_middle (a := p7) (l₁ := [p0, p1, p2, p3, p4, p5, p6]) (l₂ := own))
theorem St.front8 {m : Mem} {p0 p1 p2 p3 p4 p5 p6 p7 p8 : Piece} {own : List Piece} {w : World} (h : St m (p0 :: p1 :: p2 :: p3 :: p4 :: p5 :: p6 :: p7 :: p8 :: own) w) : St m (p8 :: p0 :: p1 :: p2 :: p3 :: p4 :: p5 :: p6 :: p7 :: own) w :=
 h.perm (List.perm_middle (a := p8) (l₁ := [p0, p1, p2, p3, p4, p5, p6, p7]) (l₂ := own))
theorem St.front9 {m : Mem} {p0 p1 p2 p3 p4 p5 p6 p7 p8 p9 : Piece} {own : List Piece} {w : World} (h : St m (p0 :: p1 :: p2 :: p3 :: p4 :: p5 :: p6 :: p7 :: p8 :: p9 :: own) w) : St m (p9 :: p0 :: p1 :: p2 :: p3 :: p4 :: p5 :: p6 :: p7 :: p8 :: own) w :=
 h.perm (List.perm_middle (a := p9) (l₁ := [p0, p1, p2, p3, p4, p5, p6, p7, p8]) (l₂ := own))
theorem St.front11 {m : Mem} {p0 p1 p2 p3 p4 p5 p6 p7 p8 p9 p10 p11 : Piece} {own : List Piece} {w : World} (h : St m (p0 :: p1 :: p2 :: p3 :: p4 :: p5 :: p6 :: p7 :: p8 :: p9 :: p10 :: p11 :: own) w) : St m (p11 :: p0 :: p1 :: p2 :: p3 :: p4 :: p5 :: p6 :: p7 :: p8 :: p9 :: p10 :: own) w :=
 h.perm (List.perm_middle (a := p11) (l₁ := [p0, p1, p2, p3, p4, p5, p6, p7, p8, p9, p10]) (l₂ := own))
theorem St.set {m : Mem} {own : List Piece} {w w' : World} {b : Nat} {o o' : Obj} (h : St m (.blk b o :: own) w) (hs : Step w w') (hb : w'.heap[b]? = some o')
  (hk : ∀ k, k < w.heap.size → k ≠ b → w'.heap[k]? = w.heap[k]?) : St m (.blk b o' :: own) w' := by
 have hh := h.head
 have hne := h.head_ne (b := b) rfl
 have ht := h.tail
 refine St.cons ⟨ht.1.keep hs fun k ⟨x, hx⟩ hf => hk k (qKt hx) (fun e => hf (e ▸ hh.2)), fun p hp => Piece.holds_keep (ht.2.1 p hp) fun k hkb => hk k (Piece.holds_lt (ht.2.1 p hp) hkb) (fun e => hne (mem_block.2 ⟨p, hp, e ▸ hkb⟩)), ht.2.2⟩ ⟨hb, hh.2⟩ ?_
 intro k hkk; simp only [Piece.block, Option.some.injEq] at hkk; subst hkk; exact hne
def Mem.addCells (m : Mem) (b : Nat) (f : Nat → Option Value) : Mem := { m with cell := fun k o => if k = b then (match m.cell k o with | some v => some v | none => f o) else m.cell k o }
theorem Mem.le_addCells (m : Mem) (b : Nat) (f : Nat → Option Value) : m.le (m.addCells b f) := by
 refine ⟨fun k o v h => ?_, fun _ _ h => h, rfl⟩
 simp only [addCells]
 split
 ·simp [h]
 ·exact h
theorem Piece.holds_addCells {m : Mem} {w : World} {p : Piece} {b : Nat} {f : Nat → Option Value} (h : p.holds m w) (hne : p.block ≠ some b) : p.holds (m.addCells b f) w := by
 cases p with
 | blk c o =>
  have : c ≠ b := fun e => hne (by simp [Piece.block, e])
  exact ⟨h.1, fun o => by simp [Mem.addCells, this, h.2.1 o], h.2.2⟩
 | room a n cap e sz =>
  cases a with
  | none => exact h
  | some q =>
   have : q.block ≠ b := fun e => hne (by simp [Piece.block, e])
   obtain ⟨h1, h2, h3, h4, h5, h6, h7⟩ := h
   exact ⟨h1, h2, h3, h4, h5, fun o ho => by simp [Mem.addCells, this, h6 o ho], h7⟩
theorem St.addCells {m : Mem} {own : List Piece} {w : World} (h : St m own w) {b : Nat} {f : Nat → Option Value} (hb : b ∉ own.filterMap Piece.block)
  (hf : ∀ o v, f o = some v → ∃ c e fr, w.heap[b]? = some (.cells c e fr) ∧ c[o]? = some v) : St (m.addCells b f) own w := by
 refine ⟨⟨?_, h.1.2⟩, fun p hp => Piece.holds_addCells (h.2.1 p hp) fun e => hb (mem_block.2 ⟨p, hp, e⟩), h.2.2⟩
 intro k o v hv
 simp only [Mem.addCells] at hv
 split at hv
 ·rename_i hk; subst hk
  cases hc : m.cell k o with
  | some u => simp [hc] at hv; subst hv; exact h.1.1 _ _ _ hc
  | none => simp [hc] at hv; exact hf o v hv
 ·exact h.1.1 _ _ _ hv
def MRow (m : Mem) (b o : Nat) (cs : List Value) : Prop := ∀ j v, cs[j]? = some v → m.cell b (o + j) = some v
theorem MRow.mono {m m' : Mem} {b o : Nat} {cs : List Value} (h : MRow m b o cs) (hle : m.le m') : MRow m' b o cs := fun j v hv => hle.1 _ _ _ (h j v hv)
theorem MRow.drop {m : Mem} {b o : Nat} {cs : List Value} (h : MRow m b o cs) (k : Nat) : MRow m b (o + k) (cs.drop k) := by
 intro j v hv
 have := h (k + j) v (by simpa [List.getElem?_drop] using hv)
 rw [Nat.add_assoc]; exact this
structure Codec (α : Type) where
 sz : Nat
 pos : 0 < sz
 rep : Mem → α → List Value → Prop
 len : ∀ m x cs, rep m x cs → cs.length = sz
 one : ∀ m x cs, rep m x cs → ∀ v ∈ cs, v.oneCell' = true
 mono : ∀ m m' x cs, m.le m' → rep m x cs → rep m' x cs
def RepS {α : Type} (c : Codec α) (m : Mem) (a : Option Addr) (cap : Nat) (l : List α) : Prop :=
 l.length ≤ cap ∧ cap ≤ maxLen ∧ match a with
  | none => cap = 0
  | some p => (p.spot = none ∨ l = []) ∧ ∀ i x, l[i]? = some x → ∃ cs, c.rep m x cs ∧ MRow m p.block (p.off + i * c.sz) cs
theorem RepS.mono {α : Type} {c : Codec α} {m m' : Mem} {a : Option Addr} {cap : Nat} {l : List α} (h : RepS c m a cap l) (hle : m.le m') : RepS c m' a cap l := by
 refine ⟨h.1, h.2.1, ?_⟩
 cases a with
 | none => exact h.2.2
 | some p =>
  refine ⟨h.2.2.1, fun i x hx => ?_⟩
  obtain ⟨cs, h1, h2⟩ := h.2.2.2 i x hx
  exact ⟨cs, c.mono _ _ _ _ hle h1, h2.mono hle⟩
theorem RepS.nil {α : Type} (c : Codec α) (m : Mem) : RepS c m none 0 [] := ⟨Nat.le_refl _, Nat.zero_le _, rfl⟩
theorem RepS.cells {α : Type} {c : Codec α} {m : Mem} {p : Addr} {cap : Nat} {l : List α} (h : RepS c m (some p) cap l) :
  ∃ cs, cs.length = l.length * c.sz ∧ (∀ v ∈ cs, v.oneCell' = true) ∧ MRow m p.block p.off cs ∧ ∀ i x, l[i]? = some x → c.rep m x ((cs.drop (i * c.sz)).take c.sz) := by
 have key : ∀ (l : List α) (o : Nat), (∀ i x, l[i]? = some x → ∃ cs, c.rep m x cs ∧ MRow m p.block (o + i * c.sz) cs) →
   ∃ cs, cs.length = l.length * c.sz ∧ (∀ v ∈ cs, v.oneCell' = true) ∧ MRow m p.block o cs ∧ ∀ i x, l[i]? = some x → c.rep m x ((cs.drop (i * c.sz)).take c.sz) := by
  intro l
  induction l with
  | nil => intro o _; exact ⟨[], by simp, by simp, fun j v h => by simp at h, fun i x h => by simp at h⟩
  | cons y l ih =>
   intro o h
   obtain ⟨c1, hr, hm⟩ := h 0 y rfl
   have hl1 := c.len _ _ _ hr
   obtain ⟨c2, h1, h2, h3, h4⟩ := ih (o + c.sz) (fun i x hx => by
    obtain ⟨cs, a, b⟩ := h (i + 1) x (by simpa using hx)
    exact ⟨cs, a, by rw [Nat.add_mul, Nat.one_mul, Nat.add_comm (i * c.sz), ← Nat.add_assoc] at b; exact b⟩)
   refine ⟨c1 ++ c2, by simp [hl1, h1, Nat.add_mul, Nat.add_comm], ?_, ?_, ?_⟩
   ·intro v hv
    rcases List.mem_append.1 hv with hv | hv
    ·exact c.one _ _ _ hr v hv
    ·exact h2 v hv
   ·intro j v hv
    rw [List.getElem?_append] at hv
    split at hv
    ·simpa using hm j v hv
    ·rename_i hj
     have := h3 _ v hv
     rw [hl1] at this hj
     have e : o + c.sz + (j - c.sz) = o + j := by omega
     rw [e] at this; exact this
   ·intro i x hx
    cases i with
    | zero => simp at hx; subst hx; simp [hl1 ▸ List.take_left (l₁ := c1) (l₂ := c2)]; exact hr
    | succ i =>
     have := h4 i x (by simpa using hx)
     have e : (c1 ++ c2).drop ((i + 1) * c.sz) = c2.drop (i * c.sz) := by
      rw [List.drop_append, List.drop_eq_nil_of_le (by rw [hl1, Nat.add_mul]; omega), List.nil_append, hl1, Nat.add_mul, Nat.one_mul, Nat.add_sub_cancel]
     rw [e]; exact this
 exact key l p.off (h.2.2.2)
end Go.Dc
