/- The decompiler's further rules: strings, results, loops of plain data, small arithmetic. No condition. -/
import Derived.Test.YtgggihpbhmbjaaaGreatDoorOpsy6
namespace Go.Dc
def remS (x y : Int) : Option Int := if y = 0 then none else some (x.tmod y)
def qBf {σ β : Type} (f : σ → Option (σ ⊕ β)) : Nat → σ → Option β
 | 0, _ => none
 | k + 1, s => (f s).bind fun
  | .inl s' => qBf f k s'
  | .inr b => some b
theorem qBn {σ β : Type} {f : σ → Option (σ ⊕ β)} {k : Nat} {s : σ} {b : β} (h : qBf f (k + 1) s = some b) : ∃ c, f s = some c ∧ (∀ s', c = .inl s' → qBf f k s' = some b) ∧ (∀ b', c = .inr b' → b' = b) := by
 simp only [qBf] at h
 obtain ⟨c, h1, h2⟩ := Option.bind_eq_some_iff.1 h
 refine ⟨c, h1, ?_, ?_⟩
 ·rintro s' rfl; exact h2
 ·rintro b' rfl; simpa using h2
section
variable {ρ : Option Nat} {P : Program} {n : Fr} {ops : Array Oper} {Q : Exit → Act → World → Prop} {i d : Nat} {L : Env} {w : World} {m : Mem} {own : List Piece} {N : Env → World → Prop}
theorem qBk {t : Nat} {b : Bool} (e : Bool) (h1 : look L t = some (.bool e)) (h2 : e = b) (h : WO P n ops Q i ((t, .bool b) :: L) w) : WO P n ops Q i L w := by
 intro a ha
 refine h a (ha.sub ?_)
 intro u v hv
 simp only [look] at hv
 cases hb : Nat.beq t u with
 | true =>
  simp only [hb, cond_true] at hv
  have := Nat.eq_of_beq_eq_true hb; subst this
  rw [h1, h2]; exact hv
 | false => simp only [hb, cond_false] at hv; exact hv
theorem qGz {j : Nat} (I : Env → World → Prop) (hend : ∀ L' w', I L' w' → WO P n ops Q j L' w') (hreg : (∀ L' w', I L' w' → WO P n ops Q j L' w') → WO P n ops Q i L w) : WO P n ops Q i L w := hreg hend
theorem qCf {c : Code} (e : Exit) (I : Env → World → Prop) (hend : ∀ L' w', I L' w' → X n Q e L' w') (hbody : (∀ L' w', I L' w' → X n Q e L' w') → W ρ P n c Q L w) : W ρ P n c Q L w := hbody hend
theorem One_rem {t t2 : TypeId} {x y : Operand} {k : IntKind} {a b r : Int} (ho : opAt ops L i = some (some d, .binOp .rem t x y t2)) (hd : Nat.blt d n = true) (hx : evL L x = some (.int k a)) (hy : evL L y = some (.int k b))
  (hs : remS a b = some r) (h : N ((d, .int k r) :: L) w) : One P n ops Q i N L w := by
 unfold remS at hs
 split at hs
 ·cases hs
 ·rename_i hb
  simp only [Option.some.injEq] at hs; subst hs
  refine qFb ho hd (fun q hq => ?_) h
  simp [execOp, hq, qBp hx, qBp hy, eqGuard, binOp, Op.intDiv, hb]
def subB (s : ByteArray) (lo hi : Int) : Option ByteArray := if 0 ≤ lo ∧ lo ≤ hi ∧ hi ≤ s.size then some (s.extract lo.toNat hi.toNat) else none
def idxB (s : ByteArray) (i : Int) : Option UInt8 := if 0 ≤ i then s[i.toNat]? else none
def catB (s t : ByteArray) : Option ByteArray := if s.size + t.size ≤ maxLen then some (s ++ t) else none
def qNa (l : List UInt8) : ByteArray := ⟨l.toArray⟩
theorem qHb {t : TypeId} {x y : Operand} {s : ByteArray} {k : IntKind} {ix : Int} {z : UInt8} (ho : opAt ops L i = some (some d, .index t x y)) (hd : Nat.blt d n = true) (hx : evL L x = some (.string s)) (hy : evL L y = some (.int k ix))
  (hu : P.underlying t = some .string) (hs : idxB s ix = some z) (h : N ((d, .int .u8 (z.toNat : Int)) :: L) w) : One P n ops Q i N L w := by
 unfold idxB at hs
 split at hs
 ·rename_i h0
  refine qFb ho hd (fun q hq => ?_) h
  simp [execOp, hq, qBp hx, qBp hy, Instr.index, asIntOf, run_underlying hu, h0, hs]
 ·cases hs
theorem qKk {t : TypeId} {x : Operand} {lo hi : Option Operand} {s r : ByteArray} {li hix : Int} (ho : opAt ops L i = some (some d, .slice t x lo hi none)) (hd : Nat.blt d n = true) (hx : evL L x = some (.string s))
  (hu : P.underlying t = some .string) (hlo : (lo = none ∧ li = 0) ∨ ∃ y k, lo = some y ∧ evL L y = some (.int k li)) (hhi : (hi = none ∧ hix = s.size) ∨ ∃ y k, hi = some y ∧ evL L y = some (.int k hix)) (hs : subB s li hix = some r)
  (h : N ((d, .string r) :: L) w) : One P n ops Q i N L w := by
 unfold subB at hs
 split at hs
 ·rename_i hb
  obtain ⟨b1, b2, b3⟩ := hb
  simp only [Option.some.injEq] at hs; subst hs
  refine qFb ho hd (fun q hq => ?_) h
  have hpos : 0 ≤ hix := by omega
  have hll : li ≤ max hix 0 := by omega
  rcases hlo with ⟨rfl, rfl⟩ | ⟨y, k, rfl, hy⟩ <;> rcases hhi with ⟨rfl, rfl⟩ | ⟨y', k', rfl, hy'⟩
  ·simp [execOp, hq, Instr.sliceAt, Instr.slice, Instr.sliceBounds, run_underlying hu, qBp hx]
  ·simp [execOp, hq, Instr.sliceAt, Instr.slice, Instr.sliceBounds, Instr.sliceBound, asIntOf, run_underlying hu, qBp hx, qBp hy', hpos, b3]
  ·have : li ≤ (s.size : Int) := b2
   simp [execOp, hq, Instr.sliceAt, Instr.slice, Instr.sliceBounds, Instr.sliceBound, asIntOf, run_underlying hu, qBp hx, qBp hy, b1, this]
  ·simp [execOp, hq, Instr.sliceAt, Instr.slice, Instr.sliceBounds, Instr.sliceBound, asIntOf, run_underlying hu, qBp hx, qBp hy, qBp hy', hpos, b3, b1, hll]
 ·cases hs
theorem qDe {t t2 : TypeId} {x y : Operand} {a b r : ByteArray} (ho : opAt ops L i = some (some d, .binOp .add t x y t2)) (hd : Nat.blt d n = true) (hx : evL L x = some (.string a)) (hy : evL L y = some (.string b))
  (hs : catB a b = some r) (h : N ((d, .string r) :: L) w) : One P n ops Q i N L w := by
 unfold catB at hs
 split at hs
 ·rename_i hb
  simp only [Option.some.injEq] at hs; subst hs
  refine qFb ho hd (fun q hq => ?_) h
  have hmax : IntKind.i64.max = 9223372036854775807 := by decide
  have hb' : ¬ (9223372036854775807 < (a.size : Int) + (b.size : Int)) := by simp only [maxLen] at hb; omega
  simp [execOp, hq, qBp hx, qBp hy, eqGuard, binOp, Op.stringOp, hmax, hb']
 ·cases hs
def ResAt (P : Program) (w : World) (L : Env) (rv : ResultVar) (v : Value) : Prop :=
 match rv with
 | .tmp t => look L t = some v
 | .cell a t => ∃ b o cs, look L a = some (.pointer (some ⟨b, o, none⟩)) ∧ (∀ j u, cs[j]? = some u → w.cell? ⟨b, o + j, none⟩ = some u) ∧ loadV P t cs = some v
def ResAll (P : Program) (w : World) (L : Env) : List ResultVar → List Value → Prop
 | [], vs => vs = []
 | rv :: l, vs => ∃ v vs', vs = v :: vs' ∧ ResAt P w L rv v ∧ ResAll P w L l vs'
def tupleOf : List Value → Value
 | [v] => v
 | vs => .tuple vs.toArray
theorem ResAt.row {t : TypeId} {a : Nat} {b o : Nat} {cs : List Value} {v : Value} (h1 : look L a = some (.pointer (some ⟨b, o, none⟩))) (hst : St m own w) (hr : MRow m b o cs) (hv : loadV P t cs = some v) : ResAt P w L (.cell a t) v :=
 ⟨b, o, cs, h1, fun j u hu => hst.inv.cell (hr j u hu), hv⟩
theorem ResAt.blk {t e : TypeId} {a : Nat} {b o : Nat} {c : Array Value} {f : Nat × Nat} {v : Value} (h1 : look L a = some (.pointer (some ⟨b, o, none⟩))) (hp : Piece.holds m w (.blk b (.cells c e f))) (hv : loadV P t (c.toList.drop o) = some v) : ResAt P w L (.cell a t) v :=
 ⟨b, o, c.toList.drop o, h1, fun j u hu => by
  rw [List.getElem?_drop] at hu
  simp only [World.cell?, hp.1]
  simpa using hu, hv⟩
def oneRes (tmps : Array Value) : ResultVar → Sem Value
 | .tmp t => pure (tmps.getD t undef)
 | .cell a t => do loadVar t (← asAddr (tmps.getD a undef))
theorem results_eq (fn : Func) (tmps : Array Value) : results fn tmps = (do let vs ← fn.results.mapM (oneRes tmps); pure (if h : vs.size = 1 then vs[0] else .tuple vs)) := by
 unfold results
 congr 2
theorem qBs {k : Nat} {fn : Func} {R : Ending → World → Prop} (rvs : List ResultVar) (vs : List Value) (hf : fn.results = rvs.toArray) (hr : ResAll P w L rvs vs) (h : R (.returned (tupleOf vs)) w) : X ⟨k, []⟩ (bodyPost P fn R) .ret L w := by
 intro a ha
 refine ⟨ha.2.1, tupleOf vs, ?_, h⟩
 have key : ∀ (l : List ResultVar) (us : List Value), ResAll P w L l us → Sem.run P (l.mapM (oneRes a.tmps)) w = .ok us w := by
  intro l
  induction l with
  | nil => intro us h; simp [ResAll] at h; subst h; simp
  | cons r l ih =>
   rintro us ⟨v, vs', rfl, h1, h2⟩
   have hh : Sem.run P (oneRes a.tmps r) w = .ok v w := by
    cases r with
    | tmp t =>
     have hl : a.tmps[t]? = some v := ha.2.2 t v h1
     simp [oneRes, hl]
    | cell x t =>
     obtain ⟨b, o, cs, h3, h4, h5⟩ := h1
     have hl : a.tmps[x]? = some (.pointer (some ⟨b, o, none⟩)) := ha.2.2 x _ h3
     have := qKn (P := P) h4 h5
     simp [oneRes, hl, asAddr, this]
   rw [List.mapM_cons]
   simp only [Sem.run_bind, hh, Result.andThen_ok, ih vs' h2, Sem.run_pure]
 have hk := key rvs vs hr
 rw [results_eq, hf]
 simp only [Sem.run_bind, List.mapM_toArray, Sem.run_map, hk, Result.andThen_ok, Sem.run_pure]
 rcases vs with _ | ⟨v, _ | ⟨u, r⟩⟩
 ·rfl
 ·rfl
 ·simp [tupleOf]
end
end Go.Dc
namespace Go.Dc
theorem not_true {e : Bool} (h : e = false) : ¬ e = true := by rw [h]; exact Bool.false_ne_true
theorem ResAt.tmp {P : Program} {w : World} {L : Env} {t : Nat} {v : Value} (h : look L t = some v) : ResAt P w L (.tmp t) v := h
theorem ResAll.nil {P : Program} {w : World} {L : Env} : ResAll P w L [] [] := rfl
theorem ResAll.cons {P : Program} {w : World} {L : Env} {rv : ResultVar} {l : List ResultVar} {v : Value} {vs : List Value} (h1 : ResAt P w L rv v) (h2 : ResAll P w L l vs) : ResAll P w L (rv :: l) (v :: vs) := ⟨v, vs, rfl, h1, h2⟩
theorem qAj {α β : Type} {x : Option α} {f : α → Option β} {b : β} (h : x.bind f = some b) : ∃ a, x = some a ∧ f a = some b := Option.bind_eq_some_iff.1 h
end Go.Dc
namespace Go.Dc
theorem qCq (e : Bool) : e = true ∨ e = false := by cases e <;> simp
end Go.Dc
namespace Go.Dc
theorem qBm {σ β : Type} {f : σ → Option (σ ⊕ β)} {s : σ} {b : β} {p : Prop} (h : qBf f 0 s = some b) : p := by simp [qBf] at h
section
variable {P : Program} {n : Fr} {ops : Array Oper} {Q : Exit → Act → World → Prop} {i d : Nat} {L : Env} {w : World} {N : Env → World → Prop}
end
end Go.Dc
