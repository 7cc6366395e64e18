/- The decompiler's rules of what slices.Insert, slices.Delete and slices.Clone do with arrays of structs: slices of an owned array, copy, clear, append of zeros. No condition. -/
import Derived.Test.YtfodebccikifcaaDoorArrr1
import Derived.Lib.Overlaps
namespace Go.Dc
section
variable {P : Program} {n : Fr} {ops : Array Oper} {Q : Exit → Act → World → Prop} {i d : Nat} {L : Env} {w : World} {m : Mem} {own : List Piece} {N : Env → World → Prop}
def slA (a : Option Addr) (cap l k : Nat) : Option Addr := if cap = l then a else a.map fun p => p.add (l * k)
theorem slA_some {b o cap l k : Nat} (h : l < cap) : slA (some ⟨b, o, none⟩) cap l k = some ⟨b, o + l * k, none⟩ := by
 unfold slA; rw [if_neg (by omega)]; simp [addr_add]
theorem run_sliceO {t e k : Nat} {x : Operand} {lo hi : Option Operand} {a : Option Addr} {nn cap : Nat} {li hix : Int} (hx : evL L x = some (.slice a nn cap)) (hI : elemInfo P t = some (e, k))
  (hlo : (lo = none ∧ li = 0) ∨ ∃ y kd, lo = some y ∧ evL L y = some (.int kd li)) (hhi : (hi = none ∧ hix = nn) ∨ ∃ y kd, hi = some y ∧ evL L y = some (.int kd hix)) (h0 : 0 ≤ li) (h1 : li ≤ hix) (h2 : hix ≤ cap) (q : Oper) (hq : q.op = .slice t x lo hi none) (w : World) :
  (execOp (evD L) q).run P w = .ok (.value (.slice (slA a cap li.toNat k) (hix.toNat - li.toNat) (cap - li.toNat))) w := by
 obtain ⟨g1, inf, g2, g3⟩ := elemInfo_spec hI
 have hp : 0 ≤ hix := by omega
 have hll : li ≤ max hix 0 := by omega
 rcases hlo with ⟨rfl, rfl⟩ | ⟨y, kd, rfl, hy⟩ <;> rcases hhi with ⟨rfl, rfl⟩ | ⟨y', kd', rfl, hy'⟩
 ·simp [execOp, hq, Instr.sliceAt, Instr.slice, Instr.sliceBounds, run_underlying g1, evD_of hx, sizeOf, typeInfo, g2, g3, slA]
 ·simp [execOp, hq, Instr.sliceAt, Instr.slice, Instr.sliceBounds, Instr.sliceBound, asIntOf, run_underlying g1, evD_of hx, evD_of hy', hp, h2, sizeOf, typeInfo, g2, g3, slA]
 ·have : li ≤ (nn : Int) := h1
  simp [execOp, hq, Instr.sliceAt, Instr.slice, Instr.sliceBounds, Instr.sliceBound, asIntOf, run_underlying g1, evD_of hx, evD_of hy, h0, this, sizeOf, typeInfo, g2, g3, slA]
 ·simp [execOp, hq, Instr.sliceAt, Instr.slice, Instr.sliceBounds, Instr.sliceBound, asIntOf, run_underlying g1, evD_of hx, evD_of hy, evD_of hy', hp, h2, h0, hll, sizeOf, typeInfo, g2, g3, slA]
theorem One_sliceO {t e k : Nat} {x : Operand} {lo hi : Option Operand} {a : Option Addr} {nn cap : Nat} {li hix : Int} (v : Value) (ho : opAt ops L i = some (some d, .slice t x lo hi none)) (hd : Nat.blt d n = true) (hx : evL L x = some (.slice a nn cap)) (hI : elemInfo P t = some (e, k))
  (hlo : (lo = none ∧ li = 0) ∨ ∃ y kd, lo = some y ∧ evL L y = some (.int kd li)) (hhi : (hi = none ∧ hix = nn) ∨ ∃ y kd, hi = some y ∧ evL L y = some (.int kd hix)) (h0 : 0 ≤ li) (h1 : li ≤ hix) (h2 : hix ≤ cap) (hv : .slice (slA a cap li.toNat k) (hix.toNat - li.toNat) (cap - li.toNat) = v)
  (h : N ((d, v) :: L) w) : One P n ops Q i N L w := by
 subst hv
 exact One_val ho hd (fun q hq => run_sliceO hx hI hlo hhi h0 h1 h2 q hq w) h
theorem WA_sliceO {ks : List (Nat × (World → Prop))} {q fuel : Nat} {S : World → Prop} {done : List Nat} {t e k : Nat} {x : Operand} {lo hi : Option Operand} {a : Option Addr} {nn cap : Nat} {li hix : Int} (i d : Nat) (v : Value) (ho : opAt ops L i = some (some d, .slice t x lo hi none)) (hd : Nat.blt d n = true)
  (hsT : takeOK ops ks q i done = true) (hmem : (q, S) ∈ ks) (hq : QP Q) (hx : evL L x = some (.slice a nn cap)) (hI : elemInfo P t = some (e, k))
  (hlo : (lo = none ∧ li = 0) ∨ ∃ y kd, lo = some y ∧ evL L y = some (.int kd li)) (hhi : (hi = none ∧ hix = nn) ∨ ∃ y kd, hi = some y ∧ evL L y = some (.int kd hix)) (h0 : 0 ≤ li) (h1 : li ≤ hix) (h2 : hix ≤ cap) (hv : .slice (slA a cap li.toNat k) (hix.toNat - li.toNat) (cap - li.toNat) = v)
  (h : WA P n ops Q ks fuel (done ++ [i]) ((d, v) :: L) w) : WA P n ops Q ks (fuel + 1) done L w := by
 subst hv
 exact WA_take i d _ _ ho hd hsT hmem hq (fun o ho w' _ => run_sliceO hx hI hlo hhi h0 h1 h2 o ho w') h
theorem One_slice3any {t e k : Nat} {x y1 y2 y3 : Operand} {a : Option Addr} {nn cap : Nat} {l h' mx : Int} {k1 k2 k3 : IntKind} (ho : opAt ops L i = some (some d, .slice t x (some y1) (some y2) (some y3))) (hd : Nat.blt d n = true) (hx : evL L x = some (.slice a nn cap)) (hI : elemInfo P t = some (e, k))
  (hy1 : evL L y1 = some (.int k1 l)) (hy2 : evL L y2 = some (.int k2 h')) (hy3 : evL L y3 = some (.int k3 mx)) (h0 : 0 ≤ l) (h1 : l ≤ h') (h2 : h' ≤ mx) (h3 : mx ≤ cap)
  (h : ∀ v, N ((d, v) :: L) w) : One P n ops Q i N L w := by
 obtain ⟨g1, inf, g2, g3⟩ := elemInfo_spec hI
 have p1 : 0 ≤ h' := by omega
 have p2 : 0 ≤ mx := by omega
 have p3 : l ≤ max h' 0 := by omega
 have p4 : h' ≤ max mx 0 := by omega
 refine One_val ho hd (fun q hq => ?_) (h (.slice (slA a mx.toNat l.toNat k) (h'.toNat - l.toNat) (mx.toNat - l.toNat)))
 simp [execOp, hq, Instr.sliceAt, Instr.slice, Instr.sliceBounds, Instr.sliceBound, asIntOf, run_underlying g1, evD_of hx, evD_of hy1, evD_of hy2, evD_of hy3, h0, p1, p2, p3, p4, h3, sizeOf, typeInfo, g2, g3, slA]
theorem first_own {b o k nn cap sl : Nat} {C : Array Value} {e : TypeId} {S : List Value} (hb : w.heap[b]? = some (.cells C e (0, 0))) (hS : (C.toList.drop o).take (nn * k) = S) (hl : S.length = nn * k) :
  (Builtin.firstCells k nn (.slice (some ⟨b, o, none⟩) sl cap)).run P w = .ok S.toArray w := by
 refine run_firstCells_some w k nn ⟨b, o, none⟩ sl cap S hl fun j v hv => ?_
 rw [← hS, List.getElem?_take] at hv
 split at hv
 ·rw [List.getElem?_drop] at hv
  rw [addr_add]
  simp only [World.cell?, hb]
  simpa using hv
 ·cases hv
theorem One_copyO {t u e k : Nat} {x y : Operand} {b o dl dc sl sc : Nat} {a : Option Addr} {C : Array Value} {e0 : TypeId} (S C' : List Value) (ho : opAt ops L i = some (some d, .call { callee := .builtin .copy, args := #[x, y], argTypes := #[t, u] })) (hd : Nat.blt d n = true)
  (hx : evL L x = some (.slice (some ⟨b, o, none⟩) dl dc)) (hy : evL L y = some (.slice a sl sc)) (hI : elemInfo P t = some (e, k)) (st : St m (.blk b (.cells C e0 (0, 0)) :: own) w)
  (hS : (Builtin.firstCells k (Nat.min sl dl) (.slice a sl sc)).run P w = .ok S.toArray w) (hfit : o + S.length ≤ C.size) (hone : ∀ v ∈ S, v.oneCell' = true) (hC : C.toList.take o ++ S ++ C.toList.drop (o + S.length) = C')
  (h : ∀ w', St m (.blk b (.cells C'.toArray e0 (0, 0)) :: own) w' → N ((d, .int .i64 ((Nat.min sl dl : Nat) : Int)) :: L) w') : One P n ops Q i N L w := by
 subst hC
 obtain ⟨g1, inf, g2, g3⟩ := elemInfo_spec hI
 have hrun := run_storeCells_at P b o e0 S 0 C w st.head.1 (by simpa using hfit) hone
 simp only [Nat.add_zero] at hrun
 have st' := st.set (w' := w.setRow b (C.toList.take o ++ S ++ C.toList.drop (o + S.length)).toArray) (o' := .cells (C.toList.take o ++ S ++ C.toList.drop (o + S.length)).toArray e0 (0, 0)) ⟨⟨rfl, rfl⟩, rfl, dle⟩ (setRow_heap w b C _ e0 _ st.head.1) (fun j _ hj => setRow_other w b j _ hj)
 refine One_valT (v := undef) (w' := w) ho hd (fun q h3 => ?_)
 refine ⟨_, _, ?_, h _ st'⟩
 rw [← g3] at hS
 simp only [execOp, h3, resolve, Sem.run_bind, Sem.run_pure, Result.andThen_ok, invoke, builtin]
 simp [evD_of hx, evD_of hy, Builtin.copy_, run_underlying g1, sizeOf, typeInfo, g2, Builtin.lenOf, hS, hrun, goInt]
theorem One_val0 {i : Nat} {op : Op} {L : Env} {w w' : World} {v : Value} (ho : opAt ops L i = some (none, op))
  (hrun : ∀ o : Oper, o.op = op → (execOp (evD L) o).run P w = .ok (.value v) w')
  (h : N L w') : One P n ops Q i N L w := by
 obtain ⟨o, h1, h2, h3, h4, h5⟩ := opAt_spec ho
 intro a ha
 unfold opW
 simp only [h1, ha.wanted h4, if_true]
 rw [ha.exec h5, hrun o h3, Oper.uponIn_value, h2]
 exact ⟨_, ha, h⟩
theorem One_clearO {t e k zs : Nat} {x : Operand} {b o dl dc : Nat} {C : Array Value} {e0 : TypeId} {z : Value} (C' : List Value) (ho : opAt ops L i = some (none, .call { callee := .builtin .clear, args := #[x], argTypes := #[t] }))
  (hx : evL L x = some (.slice (some ⟨b, o, none⟩) (dl + 1) dc)) (hI : elemInfo P t = some (e, k)) (hz : (P.info? e).bind (·.zero) = some z) (hzs : z.cells.size = zs) (hone : ∀ v ∈ z.cells.toList, v.oneCell' = true) (st : St m (.blk b (.cells C e0 (0, 0)) :: own) w)
  (hfit : o + (dl + 1) * zs ≤ C.size) (hC : C.toList.take o ++ (Builtin.zeroCells z.cells (dl + 1)).toList ++ C.toList.drop (o + (Builtin.zeroCells z.cells (dl + 1)).toList.length) = C')
  (h : ∀ w', St m (.blk b (.cells C'.toArray e0 (0, 0)) :: own) w' → N L w') : One P n ops Q i N L w := by
 subst hC
 obtain ⟨g1, inf, g2, g3⟩ := elemInfo_spec hI
 have hlen : (Builtin.zeroCells z.cells (dl + 1)).toList.length = (dl + 1) * zs := by rw [Array.length_toList, size_zeroCells, hzs]
 have hone' : ∀ v ∈ (Builtin.zeroCells z.cells (dl + 1)).toList, v.oneCell' = true := by
  intro v hv
  simp only [Builtin.zeroCells, Array.toList_map, List.mem_map, Array.toList_range] at hv
  obtain ⟨j, hj, rfl⟩ := hv
  have hj' := List.mem_range.1 hj
  by_cases h0 : z.cells.size = 0
  ·simp [h0] at hj'
  ·have : j % z.cells.size < z.cells.size := Nat.mod_lt _ (by omega)
   rw [getElem!_pos z.cells _ this]
   exact hone _ (by simp)
 have hrun := run_storeCells_at P b o e0 _ 0 C w st.head.1 (by simpa [hlen] using hfit) hone'
 simp only [Nat.add_zero] at hrun
 have st' := st.set (w' := w.setRow b (C.toList.take o ++ (Builtin.zeroCells z.cells (dl + 1)).toList ++ C.toList.drop (o + (Builtin.zeroCells z.cells (dl + 1)).toList.length)).toArray) (o' := .cells (C.toList.take o ++ (Builtin.zeroCells z.cells (dl + 1)).toList ++ C.toList.drop (o + (Builtin.zeroCells z.cells (dl + 1)).toList.length)).toArray e0 (0, 0)) ⟨⟨rfl, rfl⟩, rfl, dle⟩ (setRow_heap w b C _ e0 _ st.head.1) (fun j _ hj => setRow_other w b j _ hj)
 rw [g2] at hz
 simp only [Option.bind_some] at hz
 refine One_val0 (v := .tuple #[]) ho (fun q h3 => ?_) (h _ st')
 simp only [execOp, h3, resolve, Sem.run_bind, Sem.run_pure, Result.andThen_ok, invoke, builtin]
 simp [evD_of hx, Builtin.clear_, run_underlying g1, zeroValue, typeInfo, g2, hz, hrun]
theorem One_appendInO {t u e by_ k : Nat} {x y : Operand} {b sLen sCap nn sc : Nat} {a : Option Addr} {C : Array Value} {S C' : List Value} (ho : opAt ops L i = some (some d, .call { callee := .builtin .append, args := #[x, y], argTypes := #[t, u] })) (hd : Nat.blt d n = true)
  (hx : evL L x = some (.slice (some ⟨b, 0, none⟩) sLen sCap)) (hy : evL L y = some (.slice a nn sc)) (hi : sliceInfo P t = some (e, k, by_, k)) (hu : P.underlying u = some (.slice e)) (st : St m (.blk b (.cells C e (0, 0)) :: own) w)
  (hS : (Builtin.firstCells k nn (.slice a nn sc)).run P w = .ok S.toArray w) (hl : S.length = nn * k) (hone : ∀ v ∈ S, v.oneCell' = true) (hroom : sLen + nn ≤ sCap) (hfit : sLen * k + S.length ≤ C.size) (hC : C.toList.take (sLen * k) ++ S ++ C.toList.drop (sLen * k + S.length) = C')
  (h : ∀ w', St m (.blk b (.cells C'.toArray e (0, 0)) :: own) w' → N ((d, .slice (some ⟨b, 0, none⟩) (sLen + nn) sCap) :: L) w') : One P n ops Q i N L w := by
 subst hC
 obtain ⟨ht, inf, z, hinf, hz, hisz, hby, hzs⟩ := sliceInfo_spec hi
 subst hisz
 refine One_valT (v := undef) (w' := w) ho hd (fun q h3 => ?_)
 have hrun := run_append_in w t u q.type e inf ht (.inl hu) hinf (x := .slice a nn sc) (n := nn) (news := S) ⟨by simp [Builtin.lenOf], hS, hl, hone⟩ b sLen sCap C st.head.1 hroom hfit
 have st' := st.set (w' := w.setRow b (C.toList.take (sLen * inf.size) ++ S ++ C.toList.drop (sLen * inf.size + S.length)).toArray) (o' := .cells (C.toList.take (sLen * inf.size) ++ S ++ C.toList.drop (sLen * inf.size + S.length)).toArray e (0, 0)) ⟨⟨rfl, rfl⟩, rfl, dle⟩ (setRow_heap w b C _ e _ st.head.1) (fun j _ hj => setRow_other w b j _ hj)
 refine ⟨_, _, ?_, h _ st'⟩
 simp only [execOp, h3, resolve, Sem.run_bind, Sem.run_pure, Result.andThen_ok, invoke, builtin]
 simp [evD_of hx, evD_of hy, hrun]
theorem One_appendZ {t u e by_ k : Nat} {x y : Operand} {sLen sCap : Nat} {a : Option Addr} {A : List Value} {z : Value} {kd kd' : IntKind} {zn : Int} (ho : opAt ops L i = some (some d, .call { callee := .builtin .append, args := #[x, y], argTypes := #[t, u] })) (hd : Nat.blt d n = true)
  (hx : evL L x = some (.slice a sLen sCap)) (hy : evL L y = some (.int kd zn)) (hi : sliceInfo P t = some (e, k, by_, k)) (hu : P.underlying u = some (.int kd')) (hz : (P.info? e).bind (·.zero) = some z) (st : St m own w)
  (hS : ∀ w' : World, Step w w' → w'.heap = w.heap → (Builtin.firstCells k sLen (.slice a sLen sCap)).run P w' = .ok A.toArray w') (h0 : 0 < zn) (hg : sCap < sLen + zn.toNat) (hb : (sLen + zn.toNat) * by_ ≤ 140737488355328) (h63 : sLen + zn.toNat ≤ maxLen)
  (h : ∀ b cap Z w', sLen + zn.toNat ≤ cap → cap ≤ maxLen → A.length + List.length Z = A.length + zn.toNat * k + (cap - (sLen + zn.toNat)) * k → St m (.blk b (.cells (A ++ Z).toArray e (0, 0)) :: own) w' → N ((d, .slice (some ⟨b, 0, none⟩) (sLen + zn.toNat) cap) :: L) w') : One P n ops Q i N L w := by
 obtain ⟨ht, inf, z', hinf, hz', hisz, hby, hzs⟩ := sliceInfo_spec hi
 subst hisz
 rw [hinf] at hz
 simp only [Option.bind_some, hz', Option.some.injEq] at hz
 subst hz
 have hmx : (maxLen : Int) = 9223372036854775807 := rfl
 have hw : IntKind.i64.wrap zn = zn := by simp [IntKind.wrap, IntKind.signed, IntKind.bits]; omega
 have hzt : (zn.toNat : Int) = zn := Int.toNat_of_nonneg (by omega)
 have hn : ¬ (sLen + zn.toNat ≤ sCap) := by omega
 have hneg : ¬ (zn < 0) := by omega
 have h63' : ¬ (9223372036854775807 < (sLen : Int) + max zn 0) := by simp only [maxLen] at h63; omega
 have hfit := growslice_fits (need := sLen + zn.toNat) (old := sCap) (bytes := inf.bytes) hg (by rw [hby]; exact hb)
 have hfit' : ¬ (281474976710656 < Builtin.nextslicecap (sLen + zn.toNat) sCap * inf.bytes) := by omega
 have hmk : ¬ (281474976710656 < zn * (inf.bytes : Int)) := by
  have h1 : zn.toNat * inf.bytes ≤ (sLen + zn.toNat) * by_ := by rw [hby]; exact Nat.mul_le_mul_right _ (by omega)
  have h2 : (zn.toNat * inf.bytes : Nat) ≤ 140737488355328 := Nat.le_trans h1 hb
  have h3 : zn * (inf.bytes : Int) = ((zn.toNat * inf.bytes : Nat) : Int) := by rw [Int.natCast_mul, hzt]
  rw [h3]; omega
 have hmax : IntKind.i64.max = 9223372036854775807 := by decide
 have ho' := hS w.drew ⟨⟨rfl, rfl⟩, rfl, dle⟩ rfl
 have hforced : (Question.appendCap (sLen + zn.toNat) sCap e).forced = false := rfl
 generalize hgc : grownCap w (sLen + zn.toNat) sCap e = gc
 have hge : sLen + zn.toNat ≤ gc := hgc ▸ grownCap_ge _ _ _ _
 have hgm : gc ≤ maxLen := hgc ▸ grownCap_le_maxLen _ _ _ _ h63
 have hcut : (Question.appendCap (sLen + zn.toNat) sCap e).cut (w.tape w.drawn (Question.appendCap (sLen + zn.toNat) sCap e)) = gc := hgc
 obtain ⟨Z0, hZ0, hZl⟩ : ∃ Z0 : Array Value, (if zn.toNat * inf.size = 0 then pure #[] else pure (Builtin.zeroCells z'.cells zn.toNat) : Sem (Array Value)) = pure Z0 ∧ Z0.size = zn.toNat * inf.size := by
  by_cases hk : zn.toNat * inf.size = 0
  ·exact ⟨#[], by rw [if_pos hk], by simp [hk]⟩
  ·exact ⟨_, by rw [if_neg hk], by rw [size_zeroCells, hzs]⟩
 have hal := st.alloc (w' := w.drew.alloc (.cells (A ++ (Z0.toList ++ (Builtin.zeroCells z'.cells (gc - (sLen + zn.toNat))).toList)).toArray e)) (o := .cells (A ++ (Z0.toList ++ (Builtin.zeroCells z'.cells (gc - (sLen + zn.toNat))).toList)).toArray e) ⟨⟨rfl, rfl⟩, rfl, dle⟩ rfl
 refine One_valT (v := undef) (w' := w) ho hd (fun q h3 => ?_)
 refine ⟨_, _, ?_, h w.heap.size gc _ _ hge hgm (by simp [size_zeroCells, hzs, hZl, Nat.add_assoc]) hal⟩
 have hrun : (Builtin.append_ #[t, u] q.type #[.slice a sLen sCap, .int kd zn]).run P w = .ok (.slice (some ⟨w.heap.size, 0, none⟩) (sLen + zn.toNat) gc) (w.drew.alloc (.cells (A ++ (Z0.toList ++ (Builtin.zeroCells z'.cells (gc - (sLen + zn.toNat))).toList)).toArray e)) := by
  by_cases hk : zn.toNat * inf.size = 0
  ·have hZe : Z0 = #[] := Array.size_eq_zero_iff.1 (by rw [hZl, hk])
   subst hZe
   simp [Builtin.append_, run_underlying ht, run_underlying hu, sizeOf, typeInfo, asInt, asIntOf, hinf, hw, hneg, hmk, hn, h63', hfit', hmax, hforced, hcut, ho', newRow, zeroValue, hz', hk]
   congr 2
   apply Array.ext'; simp
  ·have hZe : Z0 = Builtin.zeroCells z'.cells zn.toNat := by
    rw [if_neg hk] at hZ0
    have := congrArg (fun s : Sem (Array Value) => s.run P w) hZ0
    simp only [Sem.run_pure, Result.ok.injEq, and_true] at this
    exact this.symm
   subst hZe
   simp [Builtin.append_, run_underlying ht, run_underlying hu, sizeOf, typeInfo, asInt, asIntOf, hinf, hw, hneg, hmk, hn, h63', hfit', hmax, hforced, hcut, ho', newRow, zeroValue, hz', hk]
   congr 2
   apply Array.ext'; simp
 simp only [execOp, h3, resolve, Sem.run_bind, Sem.run_pure, Result.andThen_ok, invoke, builtin]
 simp [evD_of hx, evD_of hy, hrun]
theorem run_sizeOf_of {e k : Nat} (h : (P.info? e).map (·.size) = some k) : (Go.sizeOf e).run P w = .ok k w := by
 cases hi : P.info? e with
 | none => simp [hi] at h
 | some inf => simp [hi] at h; simp [sizeOf, typeInfo, hi, h]
theorem run_overlaps_own (tS tR e : TypeId) (ht : P.underlying tS = some (.slice e)) (size : Nat) (hz : ∀ w, (Go.sizeOf e).run P w = .ok size w)
  (a b : Addr) (la ca lb cb : Nat) (hne : a.block ≠ b.block) (tA tB : TypeId) (kA kB : Nat)
  (hsa : w.shape? a.block = some (tA, kA)) (hsb : w.shape? b.block = some (tB, kB)) (hkA : kA ≠ 0)
  (hfb : w.frozen? b = false) (hfe : w.frozen? { block := b.block, off := kB } = false) :
  (Extern.SlicesOverlaps.overlaps #[tS, tS] #[tR] #[.slice (some a) la ca, .slice (some b) lb cb]).run P w = .ok (.bool false) w := by
 have hnb : (a.block != b.block) = true := by simpa using hne
 have hnb' : (a.block == b.block) = false := by simpa using hne
 change Sem.run P (α := Value) (do
  let some t := (#[tS, tS] : Array TypeId)[0]? | stuck "slices.overlaps: no parameter types"
  let .slice elem ← underlying t | stuck "slices.overlaps: slice type expected"
  let size ← sizeOf elem
  match (some a : Option Addr), (some b : Option Addr) with
  | some a, some b =>
   if la = 0 ∨ lb = 0 ∨ size = 0 then pure (Value.bool false)
   else if a.block != b.block && (← frozen a) && (← frozen b) then unsupported .addressObserved
   else do
    if a.block != b.block then do
     noView a; noView b
     if ← mayBeOne a b then return Value.bool ((← choose (.extern "sameAddr.stringBytes" 2)) == 1)
    pure (Value.bool (a.block == b.block && a.off < b.off + lb * size && b.off < a.off + la * size))
  | _, _ => pure (Value.bool false)) w = _
 by_cases h0 : la = 0 ∨ lb = 0 ∨ size = 0
 ·simp [run_underlying ht, hz, h0]
 ·cases kA with
  | zero => exact absurd rfl hkA
  | succ kA =>
   cases hfa : w.frozen? a <;> cases hfg : w.frozen? { block := a.block, off := kA + 1 } <;>
   simp [run_underlying ht, hz, h0, hnb, hnb', frozen, noView, viewAt, mayBeOne, stringish, shape, Sem.run, hsa, hsb, hfa, hfb, hfe, hfg]
end
end Go.Dc
namespace Go.Dc
def insertS {α : Type} (by_ : Nat) (l : List α) (ix : Int) (x : α) : Option (List α) :=
 if 0 ≤ ix ∧ ix ≤ l.length ∧ (l.length + 1) * by_ ≤ 140737488355328 ∧ l.length + 1 ≤ maxLen then some (l.take ix.toNat ++ x :: l.drop ix.toNat) else none
def deleteS {α : Type} (l : List α) (ix jx : Int) : Option (List α) :=
 if 0 ≤ ix ∧ ix < l.length ∧ jx = ix + 1 ∧ l.length + 1 ≤ maxLen then some (l.take ix.toNat ++ l.drop (ix.toNat + 1)) else none
theorem insertS_some {α : Type} {by_ : Nat} {l r : List α} {ix : Int} {x : α} (h : insertS by_ l ix x = some r) : ∃ i : Nat, ix = (i : Int) ∧ i ≤ l.length ∧ (l.length + 1) * by_ ≤ 140737488355328 ∧ l.length + 1 ≤ maxLen ∧ r = l.take i ++ x :: l.drop i := by
 unfold insertS at h
 split at h
 ·rename_i hb
  simp only [Option.some.injEq] at h
  exact ⟨ix.toNat, by omega, by omega, hb.2.2.1, hb.2.2.2, h.symm⟩
 ·cases h
theorem deleteS_some {α : Type} {l r : List α} {ix jx : Int} (h : deleteS l ix jx = some r) : ∃ i : Nat, ix = (i : Int) ∧ jx = (i : Int) + 1 ∧ i < l.length ∧ l.length + 1 ≤ maxLen ∧ r = l.take i ++ l.drop (i + 1) := by
 unfold deleteS at h
 split at h
 ·rename_i hb
  simp only [Option.some.injEq] at h
  exact ⟨ix.toNat, by omega, by omega, by omega, hb.2.2.2, h.symm⟩
 ·cases h
end Go.Dc
