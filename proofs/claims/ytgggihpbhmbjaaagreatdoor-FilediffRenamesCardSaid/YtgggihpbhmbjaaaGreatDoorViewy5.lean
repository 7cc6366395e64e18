/- Views of an owned array: x[i:], x[:j], and copying within it. No condition. -/
import Derived.Test.YtgggihpbhmbjaaaGreatDoorTaby5
namespace Go.Dc
variable {P : Program} {n : Fr} {ops : Array Oper} {Q : Exit → Act → World → Prop} {i d : Nat} {L : Env} {w : World} {m : Mem} {own : List Piece} {N : Env → World → Prop} {α : Type} {f : α → List Value}
theorem flat_take {k : Nat} (hf : ∀ x, (f x).length = k) : ∀ (l : List α) (j : Nat), (l.flatMap f).take (j * k) = (l.take j).flatMap f
 | [], j => by simp
 | x :: l, 0 => by simp
 | x :: l, j + 1 => by
  rw [List.flatMap_cons, List.take_succ_cons, List.flatMap_cons, List.take_append, hf, show (j + 1) * k - k = j * k by rw [Nat.add_mul, Nat.one_mul, Nat.add_sub_cancel], flat_take hf l j, List.take_of_length_le (by rw [hf, Nat.add_mul]; omega)]
theorem flat_drop {k : Nat} (hf : ∀ x, (f x).length = k) : ∀ (l : List α) (j : Nat), (l.flatMap f).drop (j * k) = (l.drop j).flatMap f
 | [], j => by simp
 | x :: l, 0 => by simp
 | x :: l, j + 1 => by
  rw [List.flatMap_cons, List.drop_succ_cons, List.drop_append, hf, show (j + 1) * k - k = j * k by rw [Nat.add_mul, Nat.one_mul, Nat.add_sub_cancel], flat_drop hf l j, List.drop_eq_nil_of_le (by rw [hf, Nat.add_mul]; omega), List.nil_append]
theorem acellsM_take {k : Nat} (hf : ∀ x, (f x).length = k) {l : List α} {T : List Value} {j : Nat} (hj : j ≤ l.length) : (acellsM f l T).toList.take (j * k) = (l.take j).flatMap f := by
 have hfl := flat_len hf l
 simp only [acellsM]
 rw [List.take_append_of_le_length (by rw [hfl]; exact Nat.mul_le_mul_right _ hj), flat_take hf]
theorem acellsM_drop {k : Nat} (hf : ∀ x, (f x).length = k) {l : List α} {T : List Value} {j : Nat} (hj : j ≤ l.length) : (acellsM f l T).toList.drop (j * k) = (l.drop j).flatMap f ++ T := by
 have hfl := flat_len hf l
 simp only [acellsM]
 rw [List.drop_append_of_le_length (by rw [hfl]; exact Nat.mul_le_mul_right _ hj), flat_drop hf]
theorem One_appendM {t u e by_ : Nat} {x y : Operand} {c : Codec α} {v : Value} {a : Option Addr} {nn cc : Nat} {T : List Value} {l k r : List α} (hfr : ∀ m x cs, c.rep m x cs → cs = f x) (hf : ∀ x, (f x).length = c.sz)
  (ho : opAt ops L i = some (some d, .call { callee := .builtin .append, args := #[x, y], argTypes := #[t, u] })) (hd : Nat.blt d n = true)
  (hx : evL L x = some (.slice a nn cc)) (hy : evL L y = some v) (st : St m (opc a (acellsM f l T) e :: own) w) (hs : OAS a nn cc c.sz T) (hn : List.length l = nn) (hi : sliceInfo P t = some (e, c.sz, by_, c.sz)) (hu : srcOK P u e)
  (hg : Gives P c m v k) (hz : appendS by_ l k = some r)
  (h : ∀ a' cap T' w', OAS a' (List.length r) cap c.sz T' → St m (opc a' (acellsM f r T') e :: own) w' → N ((d, .slice a' (List.length r) cap) :: L) w') : One P n ops Q i N L w := by
 obtain ⟨ht, inf, z, hinf, hz', hisz, hby, hzs⟩ := sliceInfo_spec hi
 unfold appendS at hz
 split at hz
 ·rename_i hk
  obtain ⟨k1, k2⟩ := hk
  simp only [Option.some.injEq] at hz; subst hz
  subst hn
  obtain ⟨cs, hsrcs, hrep⟩ := hg
  have hsrc := hsrcs w st.inv
  have hl : cs.length = k.length * c.sz := hsrc.2.2.1
  have hcs : cs = k.flatMap f := flat_of_rep hfr hl hrep
  have hfl := flat_len hf l
  have hfk := flat_len hf k
  obtain ⟨q1, q2, q3⟩ := hs
  by_cases hroom : l.length + k.length ≤ cc
  ·cases a with
   | none =>
    simp only at q3
    have hl0 : l = [] := List.eq_nil_of_length_eq_zero (by omega)
    have hk0 : k = [] := List.eq_nil_of_length_eq_zero (by omega)
    subst hl0; subst hk0; subst q3
    have hcs0 : cs = [] := by simpa using hcs
    subst hcs0
    refine One_valT (v := undef) (w' := w) ho hd (fun o h3 => ?_)
    have hrun := run_append_none w t u o.type e inf ht hu hinf (x := v) (news := []) (by rw [hisz]; exact hsrc)
    refine ⟨_, _, ?_, h none 0 [] w ⟨Nat.le_refl _, Nat.zero_le _, rfl⟩ st⟩
    simp only [execOp, h3, resolve, Sem.run_bind, Sem.run_pure, Result.andThen_ok, invoke, builtin]
    simp only [List.length_nil] at hx
    simp [evD_of hx, evD_of hy, hrun]
   | some p =>
    simp only at q3
    obtain ⟨hp, hT⟩ := q3
    obtain ⟨b, o, s⟩ := p
    simp only [Addr.mk.injEq, true_and] at hp
    obtain ⟨rfl, rfl⟩ := hp
    have st0 : St m (.blk b (.cells (acellsM f l T) e (0, 0)) :: own) w := st
    have hsz : (acellsM f l T).size = cc * c.sz := by
     simp only [acellsM, List.size_toArray, List.length_append, hfl]; omega
    have hle : l.length * c.sz + k.length * c.sz ≤ cc * c.sz := by rw [← Nat.add_mul]; exact Nat.mul_le_mul_right _ hroom
    have hC : (acellsM f l T).toList.take (l.length * inf.size) ++ cs ++ (acellsM f l T).toList.drop (l.length * inf.size + cs.length) = (acellsM f (l ++ k) (T.drop (k.length * c.sz))).toList := by
     rw [hisz, hl, hcs]
     have e1 : (acellsM f l T).toList.take (l.length * c.sz) = l.flatMap f := by
      have := acellsM_take (T := T) hf (Nat.le_refl l.length)
      rwa [List.take_length] at this
     have e2 : (acellsM f l T).toList.drop (l.length * c.sz + k.length * c.sz) = T.drop (k.length * c.sz) := by
      have := acellsM_drop (T := T) hf (Nat.le_refl l.length)
      rw [List.drop_length, List.flatMap_nil, List.nil_append] at this
      rw [← List.drop_drop, this]
     rw [e1, e2]
     simp [acellsM, List.flatMap_append]
    refine One_valT (v := undef) (w' := w) ho hd (fun q h3 => ?_)
    have hrun := run_append_in w t u q.type e inf ht hu hinf (x := v) (n := k.length) (news := cs) (by rw [hisz]; exact hsrc) b l.length cc (acellsM f l T) st0.head.1 hroom (by rw [hisz, hl, hsz]; exact hle)
    rw [hC] at hrun
    have st' := st0.set (w' := w.setRow b (acellsM f (l ++ k) (T.drop (k.length * c.sz))).toList.toArray) (o' := .cells (acellsM f (l ++ k) (T.drop (k.length * c.sz))).toList.toArray e (0, 0)) ⟨⟨rfl, rfl⟩, rfl, dle⟩ (setRow_heap w b (acellsM f l T) _ e _ st0.head.1) (fun j _ hj => setRow_other w b j _ hj)
    have st2 : St m (opc (some ⟨b, 0, none⟩) (acellsM f (l ++ k) (T.drop (k.length * c.sz))) e :: own) (w.setRow b (acellsM f (l ++ k) (T.drop (k.length * c.sz))).toList.toArray) := by simpa [opc] using st'
    have hll : (l ++ k).length = l.length + k.length := List.length_append
    refine ⟨.slice (some ⟨b, 0, none⟩) (l ++ k).length cc, _, ?_, h (some ⟨b, 0, none⟩) cc (T.drop (k.length * c.sz)) _ ⟨by rw [hll]; exact hroom, q2, rfl, ?_⟩ st2⟩
    ·simp only [execOp, h3, resolve, Sem.run_bind, Sem.run_pure, Result.andThen_ok, invoke, builtin]
     simp [evD_of hx, evD_of hy, hrun, hll]
    ·rw [hll, Nat.add_mul, List.length_drop]; omega
  ·have hlt : cc < l.length + k.length := by omega
   have hinv' : ∀ w' : World, Step w w' → w'.heap = w.heap → Inv m w' := fun w' hs hw => st.inv.keep hs (fun b _ _ => by rw [hw])
   refine One_valT (v := undef) (w' := w) ho hd (fun o h3 => ?_)
   have hold : ∀ w' : World, Step w w' → w'.heap = w.heap → (Builtin.firstCells inf.size l.length (.slice a l.length cc)).run P w' = .ok (l.flatMap f).toArray w' := fun w' _ hw => by
    cases a with
    | none =>
     simp only at q3
     have hl0 : l = [] := List.eq_nil_of_length_eq_zero (by omega)
     subst hl0
     simp [Builtin.firstCells]
    | some p =>
     simp only at q3
     obtain ⟨hp, hT⟩ := q3
     obtain ⟨b, o, s⟩ := p
     simp only [Addr.mk.injEq, true_and] at hp
     obtain ⟨rfl, rfl⟩ := hp
     have st0 : St m (.blk b (.cells (acellsM f l T) e (0, 0)) :: own) w := st
     rw [hisz]
     refine first_own (o := 0) (C := acellsM f l T) (e := e) (by rw [hw]; exact st0.head.1) ?_ hfl
     rw [List.drop_zero]
     have := acellsM_take (T := T) hf (Nat.le_refl l.length)
     rwa [List.take_length] at this
   have hrun := run_append_out (ty := o.type) w t u e inf z ht hu hinf hz' (n := k.length) (news := cs) (by rw [hisz]; exact hsrc) a l.length cc (l.flatMap f)
    hold (fun w' hs hw => by rw [hisz]; exact (hsrcs w' (hinv' w' hs hw)).2.1) hlt (by rw [hby]; exact k1) k2
   generalize hgc : grownCap w (l.length + k.length) cc e = gc at hrun
   have hge : l.length + k.length ≤ gc := hgc ▸ grownCap_ge _ _ _ _
   have hgm : gc ≤ maxLen := hgc ▸ grownCap_le_maxLen _ _ _ _ k2
   have hac : (l.flatMap f ++ cs).toArray ++ Builtin.zeroCells z.cells (gc - (l.length + k.length)) = acellsM f (l ++ k) (Builtin.zeroCells z.cells (gc - (l.length + k.length))).toList := by
    rw [hcs]; apply Array.ext'; simp [acellsM]
   rw [hac] at hrun
   have hll : (l ++ k).length = l.length + k.length := List.length_append
   refine ⟨.slice (some ⟨w.heap.size, 0, none⟩) (l ++ k).length gc, _, ?_, h (some ⟨w.heap.size, 0, none⟩) gc _ _ ⟨by omega, hgm, rfl, ?_⟩ (st.tail.alloc (w' := w.drew.alloc (.cells (acellsM f (l ++ k) (Builtin.zeroCells z.cells (gc - (l.length + k.length))).toList) e)) ⟨⟨rfl, rfl⟩, rfl, dle⟩ rfl)⟩
   ·simp only [execOp, h3, resolve, Sem.run_bind, Sem.run_pure, Result.andThen_ok, invoke, builtin]
    simp [evD_of hx, evD_of hy, hrun, hll]
   ·simp only [Array.length_toList, size_zeroCells, hzs, hll, ← Nat.add_mul]
    congr 1; omega
 ·cases hz
end Go.Dc
