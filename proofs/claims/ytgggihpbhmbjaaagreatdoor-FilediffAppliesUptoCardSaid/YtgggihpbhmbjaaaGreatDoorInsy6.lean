/- The decompiler's rules of what slices.Insert, slices.Delete and slices.Clone do with arrays of structs: slices of an owned array, copy, clear, append of zeros. No condition. -/
import Derived.Test.YtgggihpbhmbjaaaGreatDoorArry6
import Derived.Lib.Overlaps
namespace Go.Dc
section
variable {P : Program} {n : Fr} {ops : Array Oper} {Q : Exit → Act → World → Prop} {i d : Nat} {L : Env} {w : World} {m : Mem} {own : List Piece} {N : Env → World → Prop}
def slA (a : Option Addr) (cap l k : Nat) : Option Addr := if cap = l then a else a.map fun p => p.add (l * k)
theorem slA_some {b o cap l k : Nat} (h : l < cap) : slA (some ⟨b, o, none⟩) cap l k = some ⟨b, o + l * k, none⟩ := by
 unfold slA; rw [if_neg (by omega)]; simp [qLu]
theorem run_sliceO {t e k : Nat} {x : Operand} {lo hi : Option Operand} {a : Option Addr} {nn cap : Nat} {li hix : Int} (hx : evL L x = some (.slice a nn cap)) (hI : qHx P t = some (e, k))
  (hlo : (lo = none ∧ li = 0) ∨ ∃ y kd, lo = some y ∧ evL L y = some (.int kd li)) (hhi : (hi = none ∧ hix = nn) ∨ ∃ y kd, hi = some y ∧ evL L y = some (.int kd hix)) (h0 : 0 ≤ li) (h1 : li ≤ hix) (h2 : hix ≤ cap) (q : Oper) (hq : q.op = .slice t x lo hi none) (w : World) :
  (execOp (evD L) q).run P w = .ok (.value (.slice (slA a cap li.toNat k) (hix.toNat - li.toNat) (cap - li.toNat))) w := by
 obtain ⟨g1, inf, g2, g3⟩ := qHf hI
 have hp : 0 ≤ hix := by omega
 have hll : li ≤ max hix 0 := by omega
 rcases hlo with ⟨rfl, rfl⟩ | ⟨y, kd, rfl, hy⟩ <;> rcases hhi with ⟨rfl, rfl⟩ | ⟨y', kd', rfl, hy'⟩
 ·simp [execOp, hq, Instr.sliceAt, Instr.slice, Instr.sliceBounds, run_underlying g1, qBp hx, sizeOf, typeInfo, g2, g3, slA]
 ·simp [execOp, hq, Instr.sliceAt, Instr.slice, Instr.sliceBounds, Instr.sliceBound, asIntOf, run_underlying g1, qBp hx, qBp hy', hp, h2, sizeOf, typeInfo, g2, g3, slA]
 ·have : li ≤ (nn : Int) := h1
  simp [execOp, hq, Instr.sliceAt, Instr.slice, Instr.sliceBounds, Instr.sliceBound, asIntOf, run_underlying g1, qBp hx, qBp hy, h0, this, sizeOf, typeInfo, g2, g3, slA]
 ·simp [execOp, hq, Instr.sliceAt, Instr.slice, Instr.sliceBounds, Instr.sliceBound, asIntOf, run_underlying g1, qBp hx, qBp hy, qBp hy', hp, h2, h0, hll, sizeOf, typeInfo, g2, g3, slA]
theorem WA_sliceO {ks : List (Nat × (World → Prop))} {q fuel : Nat} {S : World → Prop} {done : List Nat} {t e k : Nat} {x : Operand} {lo hi : Option Operand} {a : Option Addr} {nn cap : Nat} {li hix : Int} (i d : Nat) (v : Value) (ho : opAt ops L i = some (some d, .slice t x lo hi none)) (hd : Nat.blt d n = true)
  (hsT : qLy ops ks q i done = true) (hmem : (q, S) ∈ ks) (hq : QP Q) (hx : evL L x = some (.slice a nn cap)) (hI : qHx P t = some (e, k))
  (hlo : (lo = none ∧ li = 0) ∨ ∃ y kd, lo = some y ∧ evL L y = some (.int kd li)) (hhi : (hi = none ∧ hix = nn) ∨ ∃ y kd, hi = some y ∧ evL L y = some (.int kd hix)) (h0 : 0 ≤ li) (h1 : li ≤ hix) (h2 : hix ≤ cap) (hv : .slice (slA a cap li.toNat k) (hix.toNat - li.toNat) (cap - li.toNat) = v)
  (h : WA P n ops Q ks fuel (done ++ [i]) ((d, v) :: L) w) : WA P n ops Q ks (fuel + 1) done L w := by
 subst hv
 exact WA_take i d _ _ ho hd hsT hmem hq (fun o ho w' _ => run_sliceO hx hI hlo hhi h0 h1 h2 o ho w') h
theorem first_own {b o k nn cap sl : Nat} {C : Array Value} {e : TypeId} {S : List Value} (hb : w.heap[b]? = some (.cells C e (0, 0))) (hS : (C.toList.drop o).take (nn * k) = S) (hl : S.length = nn * k) :
  (Builtin.firstCells k nn (.slice (some ⟨b, o, none⟩) sl cap)).run P w = .ok S.toArray w := by
 refine run_firstCells_some w k nn ⟨b, o, none⟩ sl cap S hl fun j v hv => ?_
 rw [← hS, List.getElem?_take] at hv
 split at hv
 ·rw [List.getElem?_drop] at hv
  rw [qLu]
  simp only [World.cell?, hb]
  simpa using hv
 ·cases hv
theorem One_copyO {t u e k : Nat} {x y : Operand} {b o dl dc sl sc : Nat} {a : Option Addr} {C : Array Value} {e0 : TypeId} (S C' : List Value) (ho : opAt ops L i = some (some d, .call { callee := .builtin .copy, args := #[x, y], argTypes := #[t, u] })) (hd : Nat.blt d n = true)
  (hx : evL L x = some (.slice (some ⟨b, o, none⟩) dl dc)) (hy : evL L y = some (.slice a sl sc)) (hI : qHx P t = some (e, k)) (st : St m (.blk b (.cells C e0 (0, 0)) :: own) w)
  (hS : (Builtin.firstCells k (Nat.min sl dl) (.slice a sl sc)).run P w = .ok S.toArray w) (hfit : o + S.length ≤ C.size) (hone : ∀ v ∈ S, v.oneCell' = true) (hC : C.toList.take o ++ S ++ C.toList.drop (o + S.length) = C')
  (h : ∀ w', St m (.blk b (.cells C'.toArray e0 (0, 0)) :: own) w' → N ((d, .int .i64 ((Nat.min sl dl : Nat) : Int)) :: L) w') : One P n ops Q i N L w := by
 subst hC
 obtain ⟨g1, inf, g2, g3⟩ := qHf hI
 have hrun := run_storeCells_at P b o e0 S 0 C w st.head.1 (by simpa using hfit) hone
 simp only [Nat.add_zero] at hrun
 have st' := st.set (w' := w.setRow b (C.toList.take o ++ S ++ C.toList.drop (o + S.length)).toArray) (o' := .cells (C.toList.take o ++ S ++ C.toList.drop (o + S.length)).toArray e0 (0, 0)) ⟨⟨rfl, rfl⟩, rfl, dle⟩ (setRow_heap w b C _ e0 _ st.head.1) (fun j _ hj => setRow_other w b j _ hj)
 refine qLb (v := undef) (w' := w) ho hd (fun q h3 => ?_)
 refine ⟨_, _, ?_, h _ st'⟩
 rw [← g3] at hS
 simp only [execOp, h3, resolve, Sem.run_bind, Sem.run_pure, Result.andThen_ok, invoke, builtin]
 simp [qBp hx, qBp hy, Builtin.copy_, run_underlying g1, sizeOf, typeInfo, g2, Builtin.lenOf, hS, hrun, goInt]
theorem One_val0 {i : Nat} {op : Op} {L : Env} {w w' : World} {v : Value} (ho : opAt ops L i = some (none, op))
  (hrun : ∀ o : Oper, o.op = op → (execOp (evD L) o).run P w = .ok (.value v) w')
  (h : N L w') : One P n ops Q i N L w := by
 obtain ⟨o, h1, h2, h3, h4, h5⟩ := opAt_spec ho
 intro a ha
 unfold opW
 simp only [h1, ha.wanted h4, if_true]
 rw [ha.exec h5, hrun o h3, Oper.uponIn_value, h2]
 exact ⟨_, ha, h⟩
end
end Go.Dc
namespace Go.Dc
end Go.Dc
