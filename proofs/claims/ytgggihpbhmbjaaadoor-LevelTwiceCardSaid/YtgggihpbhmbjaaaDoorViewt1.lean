/- Views of an owned array: x[i:], x[:j], and copying within it. No condition. -/
import Derived.Test.YtgggihpbhmbjaaaDoorTabt1
namespace Go.Dc
variable {P : Program} {n : Fr} {ops : Array Oper} {Q : Exit → Act → World → Prop} {i d : Nat} {L : Env} {w : World} {m : Mem} {own : List Piece} {N : Env → World → Prop} {α : Type} {f : α → List Value}
def chkS (l : List α) (lo hi : Int) : Option Unit := if 0 ≤ lo ∧ lo ≤ hi ∧ hi ≤ l.length then some () else none
theorem chkS_some {l : List α} {lo hi : Int} {u : Unit} (h : chkS l lo hi = some u) : 0 ≤ lo ∧ lo ≤ hi ∧ hi ≤ l.length := by
 unfold chkS at h
 split at h
 ·assumption
 ·cases h
theorem One_viewM {t e k : Nat} {x : Operand} {lo hi : Option Operand} {a : Option Addr} {nn cc : Nat} {T : List Value} {l : List α} {li hix : Int} {u : Unit} (ho : opAt ops L i = some (some d, .slice t x lo hi none)) (hd : Nat.blt d n = true) (hx : evL L x = some (.slice a nn cc)) (hI : elemInfo P t = some (e, k))
  (hlo : (lo = none ∧ li = 0) ∨ ∃ y kd, lo = some y ∧ evL L y = some (.int kd li)) (hhi : (hi = none ∧ hix = nn) ∨ ∃ y kd, hi = some y ∧ evL L y = some (.int kd hix)) (hs : OAS a nn cc k T) (hn : List.length l = nn) (hz : chkS l li hix = some u)
  (h : N ((d, .slice (slA a cc li.toNat k) (hix.toNat - li.toNat) (cc - li.toNat)) :: L) w) : One P n ops Q i N L w := by
 obtain ⟨h0, h1, h2⟩ := chkS_some hz
 have := hs.1
 exact One_sliceO _ ho hd hx hI hlo hhi h0 h1 (by omega) rfl h
theorem flat_take {k : Nat} (hf : ∀ x, (f x).length = k) : ∀ (l : List α) (j : Nat), (l.flatMap f).take (j * k) = (l.take j).flatMap f
 | [], j => by simp
 | x :: l, 0 => by simp
 | x :: l, j + 1 => by
  rw [List.flatMap_cons, List.take_succ_cons, List.flatMap_cons, List.take_append, hf, show (j + 1) * k - k = j * k by rw [Nat.add_mul, Nat.one_mul, Nat.add_sub_cancel], flat_take hf l j, List.take_of_length_le (by rw [hf, Nat.add_mul]; omega)]
theorem flat_drop {k : Nat} (hf : ∀ x, (f x).length = k) : ∀ (l : List α) (j : Nat), (l.flatMap f).drop (j * k) = (l.drop j).flatMap f
 | [], j => by simp
 | x :: l, 0 => by simp
 | x :: l, j + 1 => by
  rw [List.flatMap_cons, List.drop_succ_cons, List.drop_append, hf, show (j + 1) * k - k = j * k by rw [Nat.add_mul, Nat.one_mul, Nat.add_sub_cancel], flat_drop hf l j, List.drop_eq_nil_of_le (by rw [hf, Nat.add_mul]; omega), List.nil_append]
theorem acellsM_take {k : Nat} (hf : ∀ x, (f x).length = k) {l : List α} {T : List Value} {j : Nat} (hj : j ≤ l.length) : (acellsM f l T).toList.take (j * k) = (l.take j).flatMap f := by
 have hfl := flat_len hf l
 simp only [acellsM]
 rw [List.take_append_of_le_length (by rw [hfl]; exact Nat.mul_le_mul_right _ hj), flat_take hf]
theorem acellsM_drop {k : Nat} (hf : ∀ x, (f x).length = k) {l : List α} {T : List Value} {j : Nat} (hj : j ≤ l.length) : (acellsM f l T).toList.drop (j * k) = (l.drop j).flatMap f ++ T := by
 have hfl := flat_len hf l
 simp only [acellsM]
 rw [List.drop_append_of_le_length (by rw [hfl]; exact Nat.mul_le_mul_right _ hj), flat_drop hf]
theorem chk_n {l : List α} {lo hi : Int} {u : Unit} {nn : Nat} (h : chkS l lo hi = some u) (hn : List.length l = nn) : 0 ≤ lo ∧ lo ≤ hi ∧ hi ≤ (nn : Int) := by
 obtain ⟨h0, h1, h2⟩ := chkS_some h
 exact ⟨h0, h1, by omega⟩
theorem idx_view {l : List α} {lo hi ix : Int} {z : α} (h0 : 0 ≤ lo) (hz : idx ((l.take hi.toNat).drop lo.toNat) ix = some z) : idx l (lo + ix) = some z ∧ 0 ≤ ix ∧ lo + ix < hi := by
 obtain ⟨g0, g1, g2⟩ := idx_lt hz
 rw [List.getElem?_drop, List.getElem?_take] at g1
 split at g1
 ·rename_i g3
  refine ⟨?_, g0, by omega⟩
  unfold idx
  rw [if_pos (by omega), show (lo + ix).toNat = lo.toNat + ix.toNat by omega]
  exact g1
 ·cases g1
theorem run_viewIndex {t e k : Nat} {x y : Operand} {a : Option Addr} {nn cc : Nat} {T : List Value} {l : List α} {kd : IntKind} {lo hi ix : Int} {z : α} (hx : evL L x = some (.slice (slA a cc lo.toNat k) (hi.toNat - lo.toNat) (cc - lo.toNat))) (hy : evL L y = some (.int kd ix)) (hi' : elemInfo P t = some (e, k))
  (hs : OAS a nn cc k T) (hn : List.length l = nn) (hv : 0 ≤ lo ∧ lo ≤ hi ∧ hi ≤ (nn : Int)) (hz : idx ((l.take hi.toNat).drop lo.toNat) ix = some z) (q : Oper) (hq : q.op = .indexAddr t x y) (w : World) :
  (execOp (evD L) q).run P w = .ok (.value (.pointer (some ⟨ab a, (lo + ix).toNat * k, none⟩))) w := by
 obtain ⟨h1, inf, h2, h3⟩ := elemInfo_spec hi'
 obtain ⟨v0, v1, v2⟩ := hv
 obtain ⟨g1, g2, g3⟩ := idx_view v0 hz
 obtain ⟨_, _, hlt⟩ := idx_lt g1
 have ha := hs.some hn hlt
 have hcc := hs.1
 rw [ha, slA_some (by omega)] at hx
 generalize ab a = b at *
 have hlt' : ix < ((hi.toNat - lo.toNat : Nat) : Int) := by omega
 have e1 : 0 + lo.toNat * k + ix.toNat * k = (lo + ix).toNat * k := by rw [Nat.zero_add, ← Nat.add_mul]; congr 1; omega
 have e2 : lo.toNat * k + ix.toNat * k = (lo + ix).toNat * k := by rw [← e1, Nat.zero_add]
 simp [execOp, hq, Instr.indexAt, evD_of hx, evD_of hy, asIntOf, run_underlying h1, g2, hlt', sizeOf, typeInfo, h2, h3, addr_add, e2]
theorem One_viewIndex {t e k : Nat} {x y : Operand} {a : Option Addr} {nn cc : Nat} {T : List Value} {l : List α} {kd : IntKind} {lo hi ix : Int} {z : α} (ho : opAt ops L i = some (some d, .indexAddr t x y)) (hd : Nat.blt d n = true) (hx : evL L x = some (.slice (slA a cc lo.toNat k) (hi.toNat - lo.toNat) (cc - lo.toNat))) (hy : evL L y = some (.int kd ix)) (hi' : elemInfo P t = some (e, k))
  (hs : OAS a nn cc k T) (hn : List.length l = nn) (hv : 0 ≤ lo ∧ lo ≤ hi ∧ hi ≤ (nn : Int)) (hz : idx ((l.take hi.toNat).drop lo.toNat) ix = some z)
  (h : N ((d, .pointer (some ⟨ab a, (lo + ix).toNat * k, none⟩)) :: L) w) : One P n ops Q i N L w :=
 One_val ho hd (fun q hq => run_viewIndex hx hy hi' hs hn hv hz q hq w) h
theorem WA_viewIndex {ks : List (Nat × (World → Prop))} {q fuel : Nat} {S : World → Prop} {done : List Nat} {t e k : Nat} {x y : Operand} {a : Option Addr} {nn cc : Nat} {T : List Value} {l : List α} {kd : IntKind} {lo hi ix : Int} {z : α} (i d : Nat) (ho : opAt ops L i = some (some d, .indexAddr t x y)) (hd : Nat.blt d n = true)
  (hsT : takeOK ops ks q i done = true) (hmem : (q, S) ∈ ks) (hq : QP Q) (hx : evL L x = some (.slice (slA a cc lo.toNat k) (hi.toNat - lo.toNat) (cc - lo.toNat))) (hy : evL L y = some (.int kd ix)) (hi' : elemInfo P t = some (e, k))
  (hs : OAS a nn cc k T) (hn : List.length l = nn) (hv : 0 ≤ lo ∧ lo ≤ hi ∧ hi ≤ (nn : Int)) (hz : idx ((l.take hi.toNat).drop lo.toNat) ix = some z)
  (h : WA P n ops Q ks fuel (done ++ [i]) ((d, .pointer (some ⟨ab a, (lo + ix).toNat * k, none⟩)) :: L) w) : WA P n ops Q ks (fuel + 1) done L w :=
 WA_take i d _ _ ho hd hsT hmem hq (fun o ho w' _ => run_viewIndex hx hy hi' hs hn hv hz o ho w') h
def clearM (l : List α) (lo : Int) (z0 : α) : Option (List α) := if 0 ≤ lo ∧ lo < l.length then some (l.take lo.toNat ++ List.replicate (l.length - lo.toNat) z0) else none
theorem clearM_len {l r : List α} {lo : Int} {z0 : α} (h : clearM l lo z0 = some r) : r.length = l.length := by
 unfold clearM at h
 split at h
 ·simp only [Option.some.injEq] at h; subst h
  simp only [List.length_append, List.length_take, List.length_replicate]; omega
 ·cases h
theorem One_clearM {t e k : Nat} {x : Operand} {a : Option Addr} {nn cc : Nat} {T : List Value} {l r : List α} {e0 : TypeId} {lo h1 : Int} {z : Value} {z0 : α} (hf : ∀ x, (f x).length = k) (hone : ∀ x, ∀ v ∈ f x, v.oneCell' = true)
  (ho : opAt ops L i = some (none, .call { callee := .builtin .clear, args := #[x], argTypes := #[t] }))
  (hx : evL L x = some (.slice (slA a cc lo.toNat k) (h1.toNat - lo.toNat) (cc - lo.toNat))) (e1 : h1 = (l.length : Int)) (hI : elemInfo P t = some (e, k)) (hz : (P.info? e).bind (·.zero) = some z) (hz0 : z.cells.toList = f z0)
  (st : St m (opc a (acellsM f l T) e0 :: own) w) (hs : OAS a nn cc k T) (hn : List.length l = nn) (hr : clearM l lo z0 = some r)
  (h : ∀ w', St m (opc a (acellsM f r T) e0 :: own) w' → N L w') : One P n ops Q i N L w := by
 unfold clearM at hr
 split at hr
 ·rename_i hb
  simp only [Option.some.injEq] at hr; subst hr
  obtain ⟨j, rfl⟩ : ∃ j : Nat, lo = j := ⟨lo.toNat, by omega⟩
  have hj : j < l.length := by omega
  have ha := hs.some hn hj
  subst hn; subst e1
  obtain ⟨q1, q2, q3⟩ := hs
  rw [ha] at q3
  simp only [true_and] at q3
  rw [ha] at hx st h
  generalize ab a = b at *
  rw [slA_some (by simp only [Int.toNat_natCast]; omega)] at hx
  simp only [Int.toNat_natCast, Nat.zero_add] at hx h
  have hfl := flat_len hf l
  have st0 : St m (.blk b (.cells (acellsM f l T) e0 (0, 0)) :: own) w := st
  have hcs : (acellsM f l T).size = cc * k := by
   simp only [acellsM, List.size_toArray, List.length_append, hfl]; omega
  obtain ⟨dl, hdl⟩ : ∃ dl, l.length - j = dl + 1 := ⟨l.length - j - 1, by omega⟩
  rw [hdl] at hx
  have hzs : z.cells.size = k := by have := congrArg List.length hz0; rw [hf] at this; simpa using this
  have hzc : (Builtin.zeroCells z.cells (dl + 1)).toList = (List.replicate (dl + 1) z0).flatMap f := by
   apply List.ext_getElem?
   intro q
   have hlen : (Builtin.zeroCells z.cells (dl + 1)).toList.length = (dl + 1) * k := by rw [Array.length_toList, size_zeroCells, hzs]
   have hfr := flat_len hf (List.replicate (dl + 1) z0)
   rw [List.length_replicate] at hfr
   by_cases hq : q < (dl + 1) * k
   ·have hk : 0 < k := Nat.pos_of_ne_zero fun h0 => by (subst h0; simp at hq)
    have hd2 : q / k < dl + 1 := (Nat.div_lt_iff_lt_mul hk).2 hq
    have hm := Nat.mod_lt q hk
    have e : q = (q / k) * k + q % k := by rw [Nat.mul_comm]; exact (Nat.div_add_mod q k).symm
    have hg := flat_get hf (List.replicate (dl + 1) z0) (q / k) z0 (q % k) (by simp [hd2]) hm
    rw [← e] at hg
    rw [hg, ← hz0]
    simp [Builtin.zeroCells, hzs, hq, hm]
   ·rw [List.getElem?_eq_none (by omega), List.getElem?_eq_none (by omega)]
  have hjk : j * k + (dl + 1) * k ≤ cc * k := by rw [← Nat.add_mul]; exact Nat.mul_le_mul_right _ (by omega)
  refine One_clearO (zs := k) (acellsM f (l.take j ++ List.replicate (l.length - j) z0) T).toList ho hx hI hz hzs (fun v hv => ?_) st0 (by rw [hcs]; exact hjk) ?_ ?_
  ·rw [hz0] at hv; exact hone _ v hv
  ·rw [hzc, flat_len hf, List.length_replicate, acellsM_take hf (by omega), ← Nat.add_mul, show j + (dl + 1) = l.length by omega, acellsM_drop hf (Nat.le_refl _), hdl]
   simp [acellsM, List.flatMap_append]
  ·intro w' st'
   have st2 : St m (.blk b (.cells (acellsM f (l.take j ++ List.replicate (l.length - j) z0) T) e0 (0, 0)) :: own) w' := by simpa using st'
   exact h w' st2
 ·cases hr
theorem view0 {a : Option Addr} {nn cc k : Nat} {T : List Value} {l : List α} {hi : Int} (hs : OAS a nn cc k T) (hn : List.length l = nn) (hv : 0 ≤ (0 : Int) ∧ 0 ≤ hi ∧ hi ≤ (nn : Int)) :
  (.slice (slA a cc (Int.toNat 0) k) (hi.toNat - Int.toNat 0) (cc - Int.toNat 0) : Value) = .slice a (List.length (l.take hi.toNat)) cc := by
 have e1 : slA a cc (Int.toNat 0) k = a := by
  unfold slA
  split
  ·rfl
  ·cases a with
   | none => rfl
   | some p =>
    have hp := hs.2.2
    simp only at hp
    rw [hp.1]
    simp [addr_add]
 have e2 : hi.toNat - Int.toNat 0 = (l.take hi.toNat).length := by rw [List.length_take]; simp; omega
 rw [e1, e2]
 rfl
theorem St.freezeView {c : Codec α} {a : Option Addr} {e nn cc : Nat} {l : List α} {T : List Value} {hi : Int} (st : St m (opc a (acellsM f l T) e :: own) w) (hs : OAS a nn cc c.sz T) (hn : List.length l = nn) (hf : ∀ x, (f x).length = c.sz) (hc : ∀ m x, c.rep m x (f x)) (hv : 0 ≤ (0 : Int) ∧ 0 ≤ hi ∧ hi ≤ (nn : Int)) :
  ∃ m', m.le m' ∧ St m' (.room a (List.length (l.take hi.toNat)) cc e c.sz :: own) w ∧ RepS c m' a cc (l.take hi.toNat) := by
 have e1 : acellsM f l T = acellsM f (l.take hi.toNat) ((l.drop hi.toNat).flatMap f ++ T) := by
  simp only [acellsM]
  rw [← List.append_assoc, ← List.flatMap_append, List.take_append_drop]
 rw [e1] at st
 obtain ⟨h1, h2, h3⟩ := hs
 refine St.freezeM (nn := (l.take hi.toNat).length) st ⟨by rw [List.length_take]; omega, h2, ?_⟩ rfl hf hc
 cases a with
 | none => exact h3
 | some p =>
  simp only at h3 ⊢
  refine ⟨h3.1, ?_⟩
  have := flat_len hf (l.drop hi.toNat)
  rw [List.length_append, this, ← Nat.add_assoc, ← Nat.add_mul, List.length_take, List.length_drop]
  have e : min hi.toNat l.length + (l.length - hi.toNat) = nn := by omega
  rw [e]; exact h3.2
end Go.Dc
