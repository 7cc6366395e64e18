/- The decompiler's rule of an append whose first slice lives on (a loan of its room), and of the way back to the memory ahead of it. No condition. -/
import Derived.Test.YtgggihpbhmbjaaaDoorLink2
import Derived.Test.YtgggihpbhmbjaaaDoorMapDk2
namespace Go.Dc
section
variable {P : Program}
def Lent (R : List Piece) (a : Option Addr) (n cap e sz : Nat) (a' : Option Addr) (cap' : Nat) : Prop := (R = [] ∧ a' = a ∧ cap' = cap) ∨ R = [.room a n cap e sz]
theorem St.lend {m : Mem} {q r : Piece} {A own : List Piece} {w : World} (h : St m (q :: r :: (A ++ own)) w) : St m (q :: (A ++ ([r] ++ own))) w :=
 h.perm (List.Perm.cons q (by simpa using (List.perm_middle (a := r) (l₁ := A) (l₂ := own)).symm))
theorem Piece.anti {m m' : Mem} {w : World} {p : Piece} (h : p.holds m' w) (hle : m.le m') : p.holds m w := by
 have hc : ∀ b o, m'.cell b o = none → m.cell b o = none := fun b o hn => by
  cases hc : m.cell b o with
  | none => rfl
  | some v => rw [← hn, hle.1 _ _ _ hc]
 have ho : ∀ b, m'.obj b = none → m.obj b = none := fun b hn => by
  cases hc : m.obj b with
  | none => rfl
  | some v => rw [← hn, hle.2.1 _ _ hc]
 cases p with
 | blk b o => exact ⟨h.1, fun q => hc _ _ (h.2.1 q), ho _ h.2.2⟩
 | room a n cap e sz =>
  cases a with
  | none => exact h
  | some p => exact ⟨h.1, h.2.1, h.2.2.1, h.2.2.2.1, h.2.2.2.2.1, fun o hq => hc _ _ (h.2.2.2.2.2.1 o hq), ho _ h.2.2.2.2.2.2⟩
theorem St.back {m m1 : Mem} {a a' : Option Addr} {n cap e sz n' cap' : Nat} {R own : List Piece} {w w1 : World} (A : List Piece) (h1 : Piece.holds m1 w1 (.room a n cap e sz)) (hle : m1.le m)
  (st : St m (.room a' n' cap' e sz :: (A ++ (R ++ own))) w) (hR : Lent R a n cap e sz a' cap') : St m1 (.room a n cap e sz :: (A ++ own)) w := by
 rcases hR with ⟨rfl, rfl, rfl⟩ | rfl
 ·have h0 : St m (.room a' n' cap' e sz :: (A ++ own)) w := st
  refine ⟨h0.1.anti hle, fun p hp => ?_, ?_⟩
  ·rcases List.mem_cons.1 hp with rfl | hp
   ·have h2 := h0.head
    cases a' with
    | none => exact h1
    | some q =>
     obtain ⟨x1, x2, x3, x4, x5, x6, x7⟩ := h1
     exact ⟨x1, x2, x3, x4, h2.2.2.2.2.1, x6, x7⟩
   ·exact Piece.anti (h0.2.1 p (List.mem_cons_of_mem _ hp)) hle
  ·have := h0.2.2
   simp only [List.filterMap_cons, Piece.block] at this ⊢
   exact this
 ·have h0 : St m (.room a n cap e sz :: (A ++ own)) w := by
   refine St.perm st.tail ?_
   simp
  exact ⟨h0.1.anti hle, fun p hp => Piece.anti (h0.2.1 p hp) hle, h0.2.2⟩
theorem run_appendL {α : Type} {c : Codec α} {m : Mem} {own : List Piece} {w : World} {t u ty e by_ : Nat} (hinfo : sliceInfo P t = some (e, c.sz, by_, c.sz)) (hu : srcOK P u e)
  {a : Option Addr} {cap : Nat} {l k r : List α} {x : Value} (A : List Piece) (hst : St m (.room a l.length cap e c.sz :: (A ++ own)) w) (hr : RepS c m a cap l)
  (hx : Gives P c m x k)
  (hs : appendS by_ l k = some r) :
  ∃ R a' cap' m' w', (Builtin.append_ #[t, u] ty #[.slice a l.length cap, x]).run P w = .ok (.slice a' r.length cap') w' ∧ m.le m' ∧ St m' (.room a' r.length cap' e c.sz :: (A ++ (R ++ own))) w' ∧ RepS c m' a' cap' r ∧ Lent R a l.length cap e c.sz a' cap' := by
 obtain ⟨ht, i, z, hi, hz, hsz, hby, hzs⟩ := sliceInfo_spec hinfo
 unfold appendS at hs
 split at hs
 ·rename_i hfit
  simp only [Option.some.injEq] at hs
  subst hs
  obtain ⟨hfit, h63⟩ := hfit
  have hinv := hst.inv
  obtain ⟨cs2, hsrcs, hrep2⟩ := hx
  have hsrc := hsrcs w hinv
  obtain ⟨cs1, hl1, ho1, hm1, hrep1⟩ := hr.cellsA
  have hl2 : cs2.length = k.length * c.sz := hsrc.2.2.1
  have hlen : (cs1 ++ cs2).length = (l ++ k).length * c.sz := by simp [hl1, hl2, Nat.add_mul]
  have hjoin : ∀ m', m.le m' → ∀ i y, (l ++ k)[i]? = some y → c.rep m' y (((cs1 ++ cs2).drop (i * c.sz)).take c.sz) := fun m' hle =>
   rep_join hl1 (fun i y hy => c.mono _ _ _ _ hle (hrep1 i y hy)) (fun i y hy => c.mono _ _ _ _ hle (hrep2 i y hy))
  have htail := hst.tail
  -- a new block
  have out : cap < l.length + k.length → (∀ w' : World, Step w w' → w'.heap = w.heap → (Builtin.firstCells i.size l.length (.slice a l.length cap)).run P w' = .ok cs1.toArray w') →
    ∃ R a' cap' m' w', (Builtin.append_ #[t, u] ty #[.slice a l.length cap, x]).run P w = .ok (.slice a' (l ++ k).length cap') w' ∧ m.le m' ∧ St m' (.room a' (l ++ k).length cap' e c.sz :: (A ++ (R ++ own))) w' ∧ RepS c m' a' cap' (l ++ k) ∧ Lent R a l.length cap e c.sz a' cap' := by
   intro hlt hold
   have hinv' : ∀ w' : World, Step w w' → w'.heap = w.heap → Inv m w' := fun w' hs hw => hinv.keep hs (fun b _ _ => by rw [hw])
   have hrun := run_append_out w t u ty e i z ht hu hi hz (n := k.length) (news := cs2) (by rw [hsz]; exact hsrc) a l.length cap cs1 hold
    (fun w' hs hw => by rw [hsz]; exact (hsrcs w' (hinv' w' hs hw)).2.1) hlt (by rw [hby]; exact hfit) h63
   generalize hgc : grownCap w (l.length + k.length) cap e = gc at hrun
   have hge : l.length + k.length ≤ gc := hgc ▸ grownCap_ge _ _ _ _
   have hgm : gc ≤ maxLen := hgc ▸ grownCap_le_maxLen _ _ _ _ h63
   generalize hcur : (cs1 ++ cs2).toArray ++ Builtin.zeroCells z.cells (gc - (l.length + k.length)) = cur at hrun
   have hcs : cur.size = gc * c.sz := by
    rw [← hcur]
    simp only [Array.size_append, List.size_toArray, size_zeroCells, hzs, hlen, List.length_append, ← Nat.add_mul]
    congr 1; omega
   have hal := hst.alloc (w' := w.drew.alloc (.cells cur e)) (o := .cells cur e) ⟨⟨rfl, rfl⟩, rfl, dle⟩ rfl
   have htk : cur.toList.take (cs1 ++ cs2).length = cs1 ++ cs2 := by rw [← hcur, Array.toList_append, List.toList_toArray, List.take_left]
   have hfresh := hst.fresh_free
   obtain ⟨m', hle, hst', hrow, hno, hobj, hoth⟩ := St.know (b := w.heap.size) hal.tail (hal.head_ne rfl) hal.head.1 htk (fun o v hv => by rw [hfresh.1 o] at hv; cases hv)
   refine ⟨[.room a l.length cap e c.sz], some ⟨w.heap.size, 0, none⟩, gc, m', w.drew.alloc (.cells cur e), by rw [hrun, List.length_append], hle, St.lend ?_, RepS.of_cells (by simpa using hge) hgm (hjoin m' hle) hrow, .inr rfl⟩
   refine hst'.cons ⟨rfl, rfl, by simpa using hge, hgm, ⟨cur, hal.head.1, hcs⟩, ?_, ?_⟩ ?_
   ·intro o ho; exact hno o (by rw [hlen]; exact ho)
   ·rw [hobj]; exact hfresh.2
   ·intro b hb
    simp only [Piece.block, Option.map_some, Option.some.injEq] at hb
    subst hb
    exact hal.head_ne rfl
  cases a with
  | none =>
   obtain ⟨rfl, rfl⟩ := hr.none_nil
   have hc1 : cs1 = [] := List.eq_nil_of_length_eq_zero (by simpa using hl1)
   subst hc1
   by_cases hk : k.length = 0
   ·have hkn : k = [] := List.eq_nil_of_length_eq_zero hk
    subst hkn
    refine ⟨[], none, 0, m, w, ?_, m.le_refl, hst, hr, .inl ⟨rfl, rfl, rfl⟩⟩
    have := run_append_none w t u ty e i ht hu hi (x := x) (news := cs2) (by rw [hsz]; exact hsrc)
    simpa using this
   ·exact out (by simp; omega) (fun w' _ _ => by simp [Builtin.firstCells])
  | some p =>
   obtain ⟨h1, h2, h3, h4, ⟨cur, h5, h6⟩, h7, h8⟩ := hst.head
   obtain ⟨g, off, spot⟩ := p
   simp only at h1 h2 h5 h7 h8
   subst h1; subst h2
   have hrow1 := hm1 _ rfl
   simp only at hrow1
   by_cases hroom : l.length + k.length ≤ cap
   ·have hfit2 : l.length * i.size + cs2.length ≤ cur.size := by rw [hl2, h6, hsz, ← Nat.add_mul]; exact Nat.mul_le_mul_right _ hroom
    have hrun := run_append_in w t u ty e i ht hu hi (x := x) (n := k.length) (news := cs2) (by rw [hsz]; exact hsrc) g l.length cap cur h5 hroom hfit2
    rw [hsz, ← hl1] at hrun
    rw [take_row hinv hrow1 h5] at hrun
    generalize hw' : w.setRow g (cs1 ++ cs2 ++ cur.toList.drop (cs1.length + cs2.length)).toArray = w' at hrun
    have hnew : w'.heap[g]? = some (.cells (cs1 ++ cs2 ++ cur.toList.drop (cs1.length + cs2.length)).toArray e (0, 0)) := by rw [← hw']; exact setRow_heap w g cur _ e _ h5
    have hoth : ∀ b, b ≠ g → w'.heap[b]? = w.heap[b]? := fun b hb => by rw [← hw']; exact setRow_other w g b _ hb
    have hcs : (cs1 ++ cs2 ++ cur.toList.drop (cs1.length + cs2.length)).toArray.size = cap * c.sz := by
     simp only [List.size_toArray, List.length_append, List.length_drop, Array.length_toList]
     have : l.length * c.sz + k.length * c.sz ≤ cap * c.sz := by rw [← Nat.add_mul]; exact Nat.mul_le_mul_right _ hroom
     omega
    have hne := hst.head_ne (b := g) rfl
    have hst1 : St m (A ++ own) w' := by
     refine ⟨?_, fun q hq => Piece.holds_keep (htail.2.1 q hq) (fun b hb => hoth b ?_), htail.2.2⟩
     ·refine ⟨?_, ?_, hinv.2.2.trans (by rw [← hw']; exact ⟨⟨rfl, rfl⟩, rfl, dle⟩)⟩
      ·intro b o v hv
       by_cases hb : b = g
       ·subst hb
        refine ⟨_, e, (0, 0), hnew, ?_⟩
        by_cases ho : o < l.length * c.sz
        ·obtain ⟨cc, e', f', hcc, hco⟩ := hinv.1 b o v hv
         rw [h5] at hcc
         simp only [Option.some.injEq, Obj.cells.injEq] at hcc
         obtain ⟨rfl, _, _⟩ := hcc
         have hlt : o < cs1.length := by rw [hl1]; exact ho
         have htk := take_row hinv hrow1 h5
         have : cs1[o]? = some v := by
          rw [← htk, List.getElem?_take, if_pos hlt]
          simpa using hco
         simp only [List.getElem?_toArray, List.append_assoc, List.getElem?_append, if_pos hlt]
         exact this
        ·rw [h7 o (by omega)] at hv; cases hv
       ·obtain ⟨cc, e', f', hcc, hco⟩ := hinv.1 b o v hv
        exact ⟨cc, e', f', by rw [hoth b hb]; exact hcc, hco⟩
      ·intro b y hy
       have : b ≠ g := by rintro rfl; rw [h8] at hy; cases hy
       rw [hoth b this]; exact hinv.2.1 b y hy
     ·rintro rfl; exact hne (mem_block.2 ⟨q, hq, hb⟩)
    obtain ⟨m', hle, hst', hrow, hno, hobj, _⟩ := St.know (b := g) (cs := cs1 ++ cs2) hst1 hne hnew (by rw [List.toList_toArray, List.take_left]) (fun o v hv => by
     by_cases ho : o < l.length * c.sz
     ·have hlt : o < cs1.length := by rw [hl1]; exact ho
      have := hrow1 o cs1[o] (by simp [hlt])
      simp only [Nat.zero_add] at this
      rw [this] at hv
      simp only [List.getElem?_append, if_pos hlt]
      rw [← hv]; simp [hlt]
     ·rw [h7 o (by omega)] at hv; cases hv)
    refine ⟨[], some ⟨g, 0, none⟩, cap, m', w', by rw [hrun, List.length_append], hle, ?_, RepS.of_cells (by simpa using hroom) h4 (hjoin m' hle) hrow, .inl ⟨rfl, rfl, rfl⟩⟩
    refine hst'.cons ⟨rfl, rfl, by simpa using hroom, h4, ⟨_, hnew, hcs⟩, ?_, ?_⟩ ?_
    ·intro o ho; exact hno o (by rw [hlen]; exact ho)
    ·rw [hobj]; exact h8
    ·intro b hb
     simp only [Piece.block, Option.map_some, Option.some.injEq] at hb
     subst hb; exact hne
   ·exact out (by omega) (fun w' hs hw => by
     have hinv' : Inv m w' := hinv.keep hs (fun b _ _ => by rw [hw])
     rw [hsz]
     exact first_of hinv' hl1 (fun p hp => by cases hp; exact ⟨.inl rfl, hrow1⟩) (fun h => by cases h))
 ·cases hs
end
section
variable {P : Program} {n : Fr} {ops : Array Oper} {Q : Exit → Act → World → Prop} {i d : Nat} {L : Env} {w : World} {N : Env → World → Prop} {m : Mem} {own : List Piece}
theorem One_appendL {α : Type} {t u e by_ : Nat} {x y : Operand} (c : Codec α) {a : Option Addr} {cap : Nat} {l k r : List α} {v : Value} (A : List Piece)
  (ho : opAt ops L i = some (some d, .call { callee := .builtin .append, args := #[x, y], argTypes := #[t, u] })) (hd : Nat.blt d n = true)
  (hx : evL L x = some (.slice a l.length cap)) (hy : evL L y = some v) (hst : St m (.room a l.length cap e c.sz :: (A ++ own)) w) (hi : sliceInfo P t = some (e, c.sz, by_, c.sz)) (hu : srcOK P u e)
  (hr : RepS c m a cap l) (hg : Gives P c m v k) (hs : appendS by_ l k = some r)
  (h : ∀ R a' cap' m' w', m.le m' → Lent R a l.length cap e c.sz a' cap' → Piece.holds m w (.room a l.length cap e c.sz) → St m' (.room a' r.length cap' e c.sz :: (A ++ (R ++ own))) w' → RepS c m' a' cap' r → N ((d, .slice a' r.length cap') :: L) w') : One P n ops Q i N L w := by
 refine One_valT (v := undef) (w' := w) ho hd (fun o h3 => ?_)
 obtain ⟨R, a', cap', m', w', hrun, hle, hst', hrep, hR⟩ := run_appendL (P := P) (ty := o.type) hi hu A hst hr hg hs
 refine ⟨_, w', ?_, h R a' cap' m' w' hle hR hst.head hst' hrep⟩
 simp [execOp, h3, resolve, invoke, builtin, evD_of hx, evD_of hy, hrun]
end
end Go.Dc
