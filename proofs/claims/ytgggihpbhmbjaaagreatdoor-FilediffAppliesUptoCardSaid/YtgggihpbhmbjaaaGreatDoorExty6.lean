/- The decompiler's rules of the functions of bytes that the model gives, of labels and scopes. No condition. -/
import Derived.Test.YtgggihpbhmbjaaaGreatDoorMapRy6
import Derived.ChangeKeysEq
namespace Go.Dc
def ixB (s : ByteArray) (c : Int) : Int :=
 match (List.range s.size).find? fun i => s[i]! == c.toNat.toUInt8 with
 | some i => (i : Int)
 | none => -1
def cntB (s : ByteArray) (c : Int) : Int := s.foldl (fun n x => if x == c.toNat.toUInt8 then n + 1 else n) ((0 : Nat) : Int)
section
variable {ρ : Option Nat} {P : Program} {n : Fr} {ops : Array Oper} {Q : Exit → Act → World → Prop} {i d : Nat} {L : Env} {w : World} {m : Mem} {own : List Piece} {N : Env → World → Prop}
theorem One_extern {f : FuncId} {fn : Func} {e : Array Value → Sem Value} {xs : Array Operand} {ts : Array TypeId} (vs : List Value) (v : Value) (ho : opAt ops L i = some (some d, .call { callee := .value (.func f), args := xs, argTypes := ts })) (hd : Nat.blt d n = true)
  (hv : xs.map (evD L) = vs.toArray) (hf : P.funcs[f]? = some fn) (h1 : (fn.name == "runtime.NumGoroutine", fn.body.isNone, (Extern.findNext fn).isNone) = (false, true, true)) (h2 : Extern.find fn = some e)
  (hrun : (e vs.toArray).run P w = .ok v w) (h : N ((d, v) :: L) w) : One P n ops Q i N L w := by
 simp only [Prod.mk.injEq] at h1
 obtain ⟨g1, g2, g3⟩ := h1
 have g1' : ¬ fn.name = "runtime.NumGoroutine" := by simpa using g1
 have g2' : fn.body = none := by simpa using g2
 have g3' : Extern.findNext fn = none := by simpa using g3
 refine qFb ho hd (fun q hq => ?_) h
 have hev : evD L (.func f) = .func (.func f) #[] #[] := rfl
 simp [execOp, hq, resolve, hev, hv, Deferred.ofValue, invoke, callFunc, hf, g1', g2', g3', h2, hrun]
theorem One_indexByte {f : FuncId} {fn : Func} {x y : Operand} {ts : Array TypeId} {s : ByteArray} {c : Int} (ho : opAt ops L i = some (some d, .call { callee := .value (.func f), args := #[x, y], argTypes := ts })) (hd : Nat.blt d n = true)
  (hx : evL L x = some (.string s)) (hy : evL L y = some (.int .u8 c)) (hf : P.funcs[f]? = some fn) (h1 : (fn.name == "runtime.NumGoroutine", fn.body.isNone, (Extern.findNext fn).isNone) = (false, true, true)) (h2 : Extern.find fn = some Extern.BytealgIndexByte.indexByte)
  (h : N ((d, .int .i64 (ixB s c)) :: L) w) : One P n ops Q i N L w := by
 refine One_extern [.string s, .int .u8 c] _ ho hd (by simp [qBp hx, qBp hy]) hf h1 h2 ?_ h
 have e : Extern.BytealgIndexByte.indexByte #[.string s, .int .u8 c] = (match (List.range s.size).find? fun i => s[i]! == c.toNat.toUInt8 with
  | some i => pure (goInt i)
  | none => pure (goInt (-1))) := rfl
 show (Extern.BytealgIndexByte.indexByte #[.string s, .int .u8 c]).run P w = _
 rw [e]
 unfold ixB
 split <;> rfl
theorem One_countByte {f : FuncId} {fn : Func} {x y : Operand} {ts : Array TypeId} {s : ByteArray} {c : Int} (ho : opAt ops L i = some (some d, .call { callee := .value (.func f), args := #[x, y], argTypes := ts })) (hd : Nat.blt d n = true)
  (hx : evL L x = some (.string s)) (hy : evL L y = some (.int .u8 c)) (hf : P.funcs[f]? = some fn) (h1 : (fn.name == "runtime.NumGoroutine", fn.body.isNone, (Extern.findNext fn).isNone) = (false, true, true)) (h2 : Extern.find fn = some Extern.BytealgCount.count)
  (h : N ((d, .int .i64 (cntB s c)) :: L) w) : One P n ops Q i N L w := by
 refine One_extern [.string s, .int .u8 c] _ ho hd (by simp [qBp hx, qBp hy]) hf h1 h2 ?_ h
 have e : Extern.BytealgCount.count #[.string s, .int .u8 c] = pure (goInt (s.foldl (fun n x => if x == c.toNat.toUInt8 then n + 1 else n) (0 : Nat))) := rfl
 show (Extern.BytealgCount.count #[.string s, .int .u8 c]).run P w = _
 rw [e]
 unfold cntB goInt
 simp only [Sem.run_pure]
end
end Go.Dc
namespace Go.Dc
def eqScal (P : Program) (t : TypeId) : Value → Value → Option Bool
 | .int k a, .int k' b => match P.underlying t with
  | some (.int _) => bif decide (k = k') then some (a == b) else none
  | _ => none
 | .bool a, .bool b => match P.underlying t with
  | some .bool => some (a == b)
  | _ => none
 | .string a, .string b => match P.underlying t with
  | some .string => some (a.toList == b.toList)
  | _ => none
 | _, _ => none
def eqFs (P : Program) (xs ys : Array Value) : List Field → Option Bool
 | [] => some true
 | f :: fs => match xs[f.offset]?, ys[f.offset]? with
  | some a, some b => bif f.name == "_" || !P.plainKey f.type then none else (eqScal P f.type a b).bind fun r => (eqFs P xs ys fs).map fun s => r && s
  | _, _ => none
section
variable {P : Program} {n : Fr} {ops : Array Oper} {Q : Exit → Act → World → Prop} {i d : Nat} {L : Env} {w : World} {N : Env → World → Prop}
theorem eqScal_run {t : TypeId} {a b : Value} {r : Bool} (dp : Nat) (h : eqScal P t a b = some r) : (Op.equalIn (dp + 1) t a b).run P w = .ok r w := by
 unfold eqScal at h
 split at h
 ·split at h
  ·rename_i hu
   rename_i k a k' b _ q
   by_cases hk : k = k'
   ·subst hk
    simp only [decide_true, cond_true, Option.some.injEq] at h
    subst h
    exact run_equalIn_int w dp t k _ a b hu
   ·simp [hk] at h
  ·cases h
 ·split at h
  ·rename_i hu; cases h; exact run_equalIn_bool w dp t _ _ hu
  ·cases h
 ·split at h
  ·rename_i hu; cases h; exact run_equalIn_string w dp t _ _ hu
  ·cases h
 ·cases h
theorem eqFs_run {xs ys : Array Value} (dp : Nat) : ∀ {fs : List Field} {r : Bool}, eqFs P xs ys fs = some r → (Op.eqFields (dp + 1) xs ys fs).run P w = .ok r w
 | [], r, h => by simp [eqFs] at h; subst h; simp [Op.eqFields]
 | f :: fs, r, h => by
  simp only [eqFs] at h
  split at h
  ·rename_i a b ha hb
   cases hc : (f.name == "_" || !P.plainKey f.type) with
   | true => simp [hc] at h
   | false =>
    simp only [hc, cond_false] at h
    simp only [Bool.or_eq_false_iff, Bool.not_eq_false'] at hc
    obtain ⟨s, h1, h2⟩ := Option.bind_eq_some_iff.1 h
    obtain ⟨u, h3, h4⟩ := Option.map_eq_some_iff.1 h2
    have hn : f.name ≠ "_" := by simpa using hc.1
    have p1 := run_part_plain (P := P) (w := w) hc.2 ha
    have p2 := run_part_plain (P := P) (w := w) hc.2 hb
    have p3 := eqScal_run (w := w) dp h1
    have p4 := eqFs_run dp h3
    subst h4
    simp only [Op.eqFields, hn, ne_eq, not_false_eq_true, if_true, Sem.run_bind, p1, p2, p3, Result.andThen_ok]
    cases s <;> simp [p4]
  ·cases h
theorem run_equalAgg {t : TypeId} {xs ys : Array Value} {r : Bool} (ht : P.underlying t = some (.struct (P.fieldsOf t))) (hs : P.stoodInHeld t = false) (h : eqFs P xs ys (P.fieldsOf t).toList = some r) : (Op.equal t (.agg xs) (.agg ys)).run P w = .ok r w := by
 have e : Op.equal t (.agg xs) (.agg ys) = Op.equalIn (9999 + 1) t (.agg xs) (.agg ys) := rfl
 rw [e, run_equalIn_struct w 9999 t xs ys ht hs]
 exact eqFs_run (w := w) 9998 h
theorem One_eqAgg {t t2 : TypeId} {x y : Operand} {xs ys : Array Value} (r : Bool) (ho : opAt ops L i = some (some d, .binOp .eql t x y t2)) (hd : Nat.blt d n = true) (hx : evL L x = some (.agg xs)) (hy : evL L y = some (.agg ys))
  (ht : P.underlying t = some (.struct (P.fieldsOf t))) (hs : (P.stoodInHeld t, P.eqGuardType P.depth t) = (false, false)) (h0 : eqFs P xs ys (P.fieldsOf t).toList = some r) (h : N ((d, .bool r) :: L) w) : One P n ops Q i N L w := by
 simp only [Prod.mk.injEq] at hs
 refine qFb ho hd (fun q hq => ?_) h
 simp [execOp, hq, qBp hx, qBp hy, eqGuard, hs.2, binOp, run_equalAgg ht hs.1 h0]
theorem One_neAgg {t t2 : TypeId} {x y : Operand} {xs ys : Array Value} (r : Bool) (ho : opAt ops L i = some (some d, .binOp .neq t x y t2)) (hd : Nat.blt d n = true) (hx : evL L x = some (.agg xs)) (hy : evL L y = some (.agg ys))
  (ht : P.underlying t = some (.struct (P.fieldsOf t))) (hs : (P.stoodInHeld t, P.eqGuardType P.depth t) = (false, false)) (h0 : eqFs P xs ys (P.fieldsOf t).toList = some r) (h : N ((d, .bool (!r)) :: L) w) : One P n ops Q i N L w := by
 simp only [Prod.mk.injEq] at hs
 refine qFb ho hd (fun q hq => ?_) h
 simp [execOp, hq, qBp hx, qBp hy, eqGuard, hs.2, binOp, run_equalAgg ht hs.1 h0]
end
end Go.Dc
