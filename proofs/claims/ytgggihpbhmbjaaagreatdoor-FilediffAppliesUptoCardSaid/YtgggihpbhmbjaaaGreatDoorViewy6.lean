/- Views of an owned array: x[i:], x[:j], and copying within it. No condition. -/
import Derived.Test.YtgggihpbhmbjaaaGreatDoorTaby6
namespace Go.Dc
variable {P : Program} {n : Fr} {ops : Array Oper} {Q : Exit → Act → World → Prop} {i d : Nat} {L : Env} {w : World} {m : Mem} {own : List Piece} {N : Env → World → Prop} {α : Type} {f : α → List Value}
def chkS (l : List α) (lo hi : Int) : Option Unit := if 0 ≤ lo ∧ lo ≤ hi ∧ hi ≤ l.length then some () else none
theorem chkS_some {l : List α} {lo hi : Int} {u : Unit} (h : chkS l lo hi = some u) : 0 ≤ lo ∧ lo ≤ hi ∧ hi ≤ l.length := by
 unfold chkS at h
 split at h
 ·assumption
 ·cases h
theorem WA_viewM {ks : List (Nat × (World → Prop))} {q fuel : Nat} {S : World → Prop} {done : List Nat} {t e k : Nat} {x : Operand} {lo hi : Option Operand} {a : Option Addr} {nn cc : Nat} {T : List Value} {l : List α} {li hix : Int} {u : Unit} (i d : Nat) (ho : opAt ops L i = some (some d, .slice t x lo hi none)) (hd : Nat.blt d n = true)
  (hsT : qLy ops ks q i done = true) (hmem : (q, S) ∈ ks) (hq : QP Q) (hx : evL L x = some (.slice a nn cc)) (hI : qHx P t = some (e, k))
  (hlo : (lo = none ∧ li = 0) ∨ ∃ y kd, lo = some y ∧ evL L y = some (.int kd li)) (hhi : (hi = none ∧ hix = nn) ∨ ∃ y kd, hi = some y ∧ evL L y = some (.int kd hix)) (hs : OAS a nn cc k T) (hn : List.length l = nn) (hz : chkS l li hix = some u)
  (h : WA P n ops Q ks fuel (done ++ [i]) ((d, .slice (slA a cc li.toNat k) (hix.toNat - li.toNat) (cc - li.toNat)) :: L) w) : WA P n ops Q ks (fuel + 1) done L w := by
 obtain ⟨h0, h1, h2⟩ := chkS_some hz
 have := hs.1
 exact WA_sliceO i d _ ho hd hsT hmem hq hx hI hlo hhi h0 h1 (by omega) rfl h
def copyL (l : List α) (d0 s0 : Nat) : List α := l.take d0 ++ (l.drop s0).take (min (l.length - s0) (l.length - d0)) ++ l.drop (d0 + min (l.length - s0) (l.length - d0))
def copyM (l : List α) (d0 s0 : Int) : Option (List α) := if 0 ≤ d0 ∧ d0 ≤ l.length ∧ 0 ≤ s0 ∧ s0 ≤ l.length ∧ 0 < l.length then some (copyL l d0.toNat s0.toNat) else none
theorem copyL_len {l : List α} {d0 s0 : Nat} (h1 : d0 ≤ l.length) : (copyL l d0 s0).length = l.length := by
 simp only [copyL, List.length_append, List.length_take, List.length_drop]; omega
theorem copyM_some {l r : List α} {d0 s0 : Int} (h : copyM l d0 s0 = some r) : ∃ d s : Nat, d0 = (d : Int) ∧ s0 = (s : Int) ∧ d ≤ l.length ∧ s ≤ l.length ∧ 0 < l.length ∧ r = copyL l d s := by
 unfold copyM at h
 split at h
 ·rename_i hb
  simp only [Option.some.injEq] at h
  exact ⟨d0.toNat, s0.toNat, by omega, by omega, by omega, by omega, hb.2.2.2.2, h.symm⟩
 ·cases h
theorem copyM_len {l r : List α} {d0 s0 : Int} (h : copyM l d0 s0 = some r) : r.length = l.length := by
 obtain ⟨d, s, _, _, h1, _, _, rfl⟩ := copyM_some h
 exact copyL_len h1
theorem flat_take {k : Nat} (hf : ∀ x, (f x).length = k) : ∀ (l : List α) (j : Nat), (l.flatMap f).take (j * k) = (l.take j).flatMap f
 | [], j => by simp
 | x :: l, 0 => by simp
 | x :: l, j + 1 => by
  rw [List.flatMap_cons, List.take_succ_cons, List.flatMap_cons, List.take_append, hf, show (j + 1) * k - k = j * k by rw [Nat.add_mul, Nat.one_mul, Nat.add_sub_cancel], flat_take hf l j, List.take_of_length_le (by rw [hf, Nat.add_mul]; omega)]
theorem flat_drop {k : Nat} (hf : ∀ x, (f x).length = k) : ∀ (l : List α) (j : Nat), (l.flatMap f).drop (j * k) = (l.drop j).flatMap f
 | [], j => by simp
 | x :: l, 0 => by simp
 | x :: l, j + 1 => by
  rw [List.flatMap_cons, List.drop_succ_cons, List.drop_append, hf, show (j + 1) * k - k = j * k by rw [Nat.add_mul, Nat.one_mul, Nat.add_sub_cancel], flat_drop hf l j, List.drop_eq_nil_of_le (by rw [hf, Nat.add_mul]; omega), List.nil_append]
theorem acellsM_take {k : Nat} (hf : ∀ x, (f x).length = k) {l : List α} {T : List Value} {j : Nat} (hj : j ≤ l.length) : (qAr f l T).toList.take (j * k) = (l.take j).flatMap f := by
 have hfl := qIz hf l
 simp only [qAr]
 rw [List.take_append_of_le_length (by rw [hfl]; exact Nat.mul_le_mul_right _ hj), flat_take hf]
theorem acellsM_drop {k : Nat} (hf : ∀ x, (f x).length = k) {l : List α} {T : List Value} {j : Nat} (hj : j ≤ l.length) : (qAr f l T).toList.drop (j * k) = (l.drop j).flatMap f ++ T := by
 have hfl := qIz hf l
 simp only [qAr]
 rw [List.drop_append_of_le_length (by rw [hfl]; exact Nat.mul_le_mul_right _ hj), flat_drop hf]
theorem One_copyM {t u e k : Nat} {x y : Operand} {a : Option Addr} {nn cc : Nat} {T : List Value} {l r : List α} {e0 : TypeId} {d0 s0 h1 h2 : Int} (hf : ∀ x, (f x).length = k) (hone : ∀ x, ∀ v ∈ f x, v.oneCell' = true) (hk : 0 < k)
  (ho : opAt ops L i = some (some d, .call { callee := .builtin .copy, args := #[x, y], argTypes := #[t, u] })) (hd : Nat.blt d n = true)
  (hx : evL L x = some (.slice (slA a cc d0.toNat k) (h1.toNat - d0.toNat) (cc - d0.toNat))) (hy : evL L y = some (.slice (slA a cc s0.toNat k) (h2.toNat - s0.toNat) (cc - s0.toNat))) (e1 : h1 = (l.length : Int)) (e2 : h2 = (l.length : Int)) (hI : qHx P t = some (e, k))
  (st : St m (opc a (qAr f l T) e0 :: own) w) (hs : OAS a nn cc k T) (hn : List.length l = nn) (hz : copyM l d0 s0 = some r)
  (h : ∀ (v : Int) w', St m (opc a (qAr f r T) e0 :: own) w' → N ((d, .int .i64 v) :: L) w') : One P n ops Q i N L w := by
 obtain ⟨dd, ss, rfl, rfl, g1, g2, g3, rfl⟩ := copyM_some hz
 have ha := hs.some hn (show 0 < l.length from g3)
 subst hn
 obtain ⟨q1, q2, q3⟩ := hs
 rw [ha] at q3
 simp only [true_and] at q3
 subst e1; subst e2
 rw [ha] at hx hy st
 rw [ha] at h
 generalize ab a = b at *
 have hfl := qIz hf l
 simp only [Int.toNat_natCast] at hx hy
 have st0 : St m (.blk b (.cells (qAr f l T) e0 (0, 0)) :: own) w := st
 have hcs : (qAr f l T).size = cc * k := by
  simp only [qAr, List.size_toArray, List.length_append, hfl]; omega
 have sl : ∀ j, j ≤ l.length → ∃ o, slA (some ⟨b, 0, none⟩) cc j k = some ⟨b, o, none⟩ ∧ o ≤ j * k ∧ (j < l.length → o = j * k) := by
  intro j hj
  by_cases hc : cc = j
  ·exact ⟨0, by simp [slA, hc], Nat.zero_le _, fun h => by omega⟩
  ·exact ⟨j * k, by rw [slA_some (by omega), Nat.zero_add], Nat.le_refl _, fun _ => rfl⟩
 obtain ⟨o1, hs1, hs2, hs3⟩ := sl dd g1
 obtain ⟨o2, ht1, ht2, ht3⟩ := sl ss g2
 rw [hs1] at hx
 rw [ht1] at hy
 generalize hM : min (l.length - ss) (l.length - dd) = M
 have hM' : Nat.min (l.length - ss) (l.length - dd) = M := hM
 have hSl : (((l.drop ss).take M).flatMap f).length = M * k := by rw [qIz hf, List.length_take, List.length_drop]; congr 1; omega
 have hdk : dd * k + M * k ≤ cc * k := by rw [← Nat.add_mul]; exact Nat.mul_le_mul_right _ (by omega)
 refine One_copyO (((l.drop ss).take M).flatMap f) (qAr f (copyL l dd ss) T).toList ho hd hx hy hI st0 ?_ ?_ ?_ ?_ ?_
 ·rw [hM']
  refine first_own st0.head.1 ?_ hSl
  rcases Nat.eq_zero_or_pos M with h0 | h0
  ·simp [h0]
  ·rw [ht3 (by omega), acellsM_drop hf g2, List.take_append_of_le_length (by rw [qIz hf, List.length_drop]; exact Nat.mul_le_mul_right _ (by omega)), flat_take hf]
 ·rw [hSl, hcs]; omega
 ·intro v hv
  obtain ⟨x, _, hx⟩ := List.mem_flatMap.1 hv
  exact hone x v hx
 ·rw [hSl]
  rcases Nat.eq_zero_or_pos M with h0 | h0
  ·have : copyL l dd ss = l := by simp only [copyL, hM, h0]; simp
   rw [this, h0]; simp
  ·rw [hs3 (by omega), acellsM_take hf g1, ← Nat.add_mul, acellsM_drop hf (show dd + M ≤ l.length by omega)]
   simp only [copyL, hM, qAr, List.flatMap_append, List.append_assoc]
 ·intro w' st'
  rw [hM']
  have st2 : St m (.blk b (.cells (qAr f (copyL l dd ss) T) e0 (0, 0)) :: own) w' := by simpa using st'
  exact h _ w' st2
theorem qHy {t u e by_ : Nat} {x y : Operand} {c : Codec α} {v : Value} {a : Option Addr} {nn cc : Nat} {T : List Value} {l k r : List α} (hfr : ∀ m x cs, c.rep m x cs → cs = f x) (hf : ∀ x, (f x).length = c.sz)
  (ho : opAt ops L i = some (some d, .call { callee := .builtin .append, args := #[x, y], argTypes := #[t, u] })) (hd : Nat.blt d n = true)
  (hx : evL L x = some (.slice a nn cc)) (hy : evL L y = some v) (st : St m (opc a (qAr f l T) e :: own) w) (hs : OAS a nn cc c.sz T) (hn : List.length l = nn) (hi : qLk P t = some (e, c.sz, by_, c.sz)) (hu : srcOK P u e)
  (hg : Gives P c m v k) (hz : qEo by_ l k = some r)
  (h : ∀ a' cap T' w', OAS a' (List.length r) cap c.sz T' → St m (opc a' (qAr f r T') e :: own) w' → N ((d, .slice a' (List.length r) cap) :: L) w') : One P n ops Q i N L w := by
 obtain ⟨ht, inf, z, hinf, hz', hisz, hby, hzs⟩ := qKj hi
 unfold qEo at hz
 split at hz
 ·rename_i hk
  obtain ⟨k1, k2⟩ := hk
  simp only [Option.some.injEq] at hz; subst hz
  subst hn
  obtain ⟨cs, hsrcs, hrep⟩ := hg
  have hsrc := hsrcs w st.inv
  have hl : cs.length = k.length * c.sz := hsrc.2.2.1
  have hcs : cs = k.flatMap f := flat_of_rep hfr hl hrep
  have hfl := qIz hf l
  have hfk := qIz hf k
  obtain ⟨q1, q2, q3⟩ := hs
  by_cases hroom : l.length + k.length ≤ cc
  ·cases a with
   | none =>
    simp only at q3
    have hl0 : l = [] := List.eq_nil_of_length_eq_zero (by omega)
    have hk0 : k = [] := List.eq_nil_of_length_eq_zero (by omega)
    subst hl0; subst hk0; subst q3
    have hcs0 : cs = [] := by simpa using hcs
    subst hcs0
    refine qLb (v := undef) (w' := w) ho hd (fun o h3 => ?_)
    have hrun := qLh w t u o.type e inf ht hu hinf (x := v) (news := []) (by rw [hisz]; exact hsrc)
    refine ⟨_, _, ?_, h none 0 [] w ⟨Nat.le_refl _, Nat.zero_le _, rfl⟩ st⟩
    simp only [execOp, h3, resolve, Sem.run_bind, Sem.run_pure, Result.andThen_ok, invoke, builtin]
    simp only [List.length_nil] at hx
    simp [qBp hx, qBp hy, hrun]
   | some p =>
    simp only at q3
    obtain ⟨hp, hT⟩ := q3
    obtain ⟨b, o, s⟩ := p
    simp only [Addr.mk.injEq, true_and] at hp
    obtain ⟨rfl, rfl⟩ := hp
    have st0 : St m (.blk b (.cells (qAr f l T) e (0, 0)) :: own) w := st
    have hsz : (qAr f l T).size = cc * c.sz := by
     simp only [qAr, List.size_toArray, List.length_append, hfl]; omega
    have hle : l.length * c.sz + k.length * c.sz ≤ cc * c.sz := by rw [← Nat.add_mul]; exact Nat.mul_le_mul_right _ hroom
    have hC : (qAr f l T).toList.take (l.length * inf.size) ++ cs ++ (qAr f l T).toList.drop (l.length * inf.size + cs.length) = (qAr f (l ++ k) (T.drop (k.length * c.sz))).toList := by
     rw [hisz, hl, hcs]
     have e1 : (qAr f l T).toList.take (l.length * c.sz) = l.flatMap f := by
      have := acellsM_take (T := T) hf (Nat.le_refl l.length)
      rwa [List.take_length] at this
     have e2 : (qAr f l T).toList.drop (l.length * c.sz + k.length * c.sz) = T.drop (k.length * c.sz) := by
      have := acellsM_drop (T := T) hf (Nat.le_refl l.length)
      rw [List.drop_length, List.flatMap_nil, List.nil_append] at this
      rw [← List.drop_drop, this]
     rw [e1, e2]
     simp [qAr, List.flatMap_append]
    refine qLb (v := undef) (w' := w) ho hd (fun q h3 => ?_)
    have hrun := qNf w t u q.type e inf ht hu hinf (x := v) (n := k.length) (news := cs) (by rw [hisz]; exact hsrc) b l.length cc (qAr f l T) st0.head.1 hroom (by rw [hisz, hl, hsz]; exact hle)
    rw [hC] at hrun
    have st' := st0.set (w' := w.setRow b (qAr f (l ++ k) (T.drop (k.length * c.sz))).toList.toArray) (o' := .cells (qAr f (l ++ k) (T.drop (k.length * c.sz))).toList.toArray e (0, 0)) ⟨⟨rfl, rfl⟩, rfl, dle⟩ (setRow_heap w b (qAr f l T) _ e _ st0.head.1) (fun j _ hj => setRow_other w b j _ hj)
    have st2 : St m (opc (some ⟨b, 0, none⟩) (qAr f (l ++ k) (T.drop (k.length * c.sz))) e :: own) (w.setRow b (qAr f (l ++ k) (T.drop (k.length * c.sz))).toList.toArray) := by simpa [opc] using st'
    have hll : (l ++ k).length = l.length + k.length := List.length_append
    refine ⟨.slice (some ⟨b, 0, none⟩) (l ++ k).length cc, _, ?_, h (some ⟨b, 0, none⟩) cc (T.drop (k.length * c.sz)) _ ⟨by rw [hll]; exact hroom, q2, rfl, ?_⟩ st2⟩
    ·simp only [execOp, h3, resolve, Sem.run_bind, Sem.run_pure, Result.andThen_ok, invoke, builtin]
     simp [qBp hx, qBp hy, hrun, hll]
    ·rw [hll, Nat.add_mul, List.length_drop]; omega
  ·have hlt : cc < l.length + k.length := by omega
   have hinv' : ∀ w' : World, Step w w' → w'.heap = w.heap → Inv m w' := fun w' hs hw => st.inv.keep hs (fun b _ _ => by rw [hw])
   refine qLb (v := undef) (w' := w) ho hd (fun o h3 => ?_)
   have hold : ∀ w' : World, Step w w' → w'.heap = w.heap → (Builtin.firstCells inf.size l.length (.slice a l.length cc)).run P w' = .ok (l.flatMap f).toArray w' := fun w' _ hw => by
    cases a with
    | none =>
     simp only at q3
     have hl0 : l = [] := List.eq_nil_of_length_eq_zero (by omega)
     subst hl0
     simp [Builtin.firstCells]
    | some p =>
     simp only at q3
     obtain ⟨hp, hT⟩ := q3
     obtain ⟨b, o, s⟩ := p
     simp only [Addr.mk.injEq, true_and] at hp
     obtain ⟨rfl, rfl⟩ := hp
     have st0 : St m (.blk b (.cells (qAr f l T) e (0, 0)) :: own) w := st
     rw [hisz]
     refine first_own (o := 0) (C := qAr f l T) (e := e) (by rw [hw]; exact st0.head.1) ?_ hfl
     rw [List.drop_zero]
     have := acellsM_take (T := T) hf (Nat.le_refl l.length)
     rwa [List.take_length] at this
   have hrun := qMe (ty := o.type) w t u e inf z ht hu hinf hz' (n := k.length) (news := cs) (by rw [hisz]; exact hsrc) a l.length cc (l.flatMap f)
    hold (fun w' hs hw => by rw [hisz]; exact (hsrcs w' (hinv' w' hs hw)).2.1) hlt (by rw [hby]; exact k1) k2
   generalize hgc : grownCap w (l.length + k.length) cc e = gc at hrun
   have hge : l.length + k.length ≤ gc := hgc ▸ grownCap_ge _ _ _ _
   have hgm : gc ≤ maxLen := hgc ▸ grownCap_le_maxLen _ _ _ _ k2
   have hac : (l.flatMap f ++ cs).toArray ++ Builtin.zeroCells z.cells (gc - (l.length + k.length)) = qAr f (l ++ k) (Builtin.zeroCells z.cells (gc - (l.length + k.length))).toList := by
    rw [hcs]; apply Array.ext'; simp [qAr]
   rw [hac] at hrun
   have hll : (l ++ k).length = l.length + k.length := List.length_append
   refine ⟨.slice (some ⟨w.heap.size, 0, none⟩) (l ++ k).length gc, _, ?_, h (some ⟨w.heap.size, 0, none⟩) gc _ _ ⟨by omega, hgm, rfl, ?_⟩ (st.tail.alloc (w' := w.drew.alloc (.cells (qAr f (l ++ k) (Builtin.zeroCells z.cells (gc - (l.length + k.length))).toList) e)) ⟨⟨rfl, rfl⟩, rfl, dle⟩ rfl)⟩
   ·simp only [execOp, h3, resolve, Sem.run_bind, Sem.run_pure, Result.andThen_ok, invoke, builtin]
    simp [qBp hx, qBp hy, hrun, hll]
   ·simp only [Array.length_toList, size_zeroCells, hzs, hll, ← Nat.add_mul]
    congr 1; omega
 ·cases hz
theorem chk_n {l : List α} {lo hi : Int} {u : Unit} {nn : Nat} (h : chkS l lo hi = some u) (hn : List.length l = nn) : 0 ≤ lo ∧ lo ≤ hi ∧ hi ≤ (nn : Int) := by
 obtain ⟨h0, h1, h2⟩ := chkS_some h
 exact ⟨h0, h1, by omega⟩
end Go.Dc
