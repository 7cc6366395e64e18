/- Tables: arrays of the function's own that it only reads, at an index that is not known. No condition. -/
import Derived.Test.YtgggihpbhmbjaaaDoorInsk2
namespace Go.Dc
variable {P : Program} {n : Fr} {ops : Array Oper} {Q : Exit → Act → World → Prop} {i d : Nat} {L : Env} {w : World} {m : Mem} {own : List Piece} {N : Env → World → Prop}
def arrInfo (P : Program) (t : TypeId) : Option (TypeId × Nat × Nat) :=
 match P.underlying t with
 | some (.array k e) => (P.info? e).map fun i => (e, k, i.size)
 | _ => none
theorem arrInfo_spec {t e k sz : Nat} (h : arrInfo P t = some (e, k, sz)) : P.underlying t = some (.array k e) ∧ ∃ inf, P.info? e = some inf ∧ inf.size = sz := by
 unfold arrInfo at h
 split at h
 ·rename_i k' e' he
  cases hi : P.info? e' with
  | none => simp [hi] at h
  | some inf => simp [hi] at h; obtain ⟨rfl, rfl, h2⟩ := h; exact ⟨he, inf, hi, h2⟩
 ·cases h
theorem MRow_elem {α : Type} {f : α → List Value} {k b : Nat} {l : List α} {ix : Int} {z : α} (hr : MRow m b 0 (l.flatMap f)) (hf : ∀ x, (f x).length = k) (hz : idx l ix = some z) : MRow m b (ix.toNat * k) (f z) := by
 obtain ⟨h0, hz', hlt⟩ := idx_lt hz
 intro j v hv
 have hj : j < k := by rw [← hf z]; exact (List.getElem?_eq_some_iff.1 hv).1
 have hg := flat_get hf l ix.toNat z j hz' hj
 rw [hv] at hg
 have := hr _ _ hg
 rwa [Nat.zero_add] at this
theorem tab_lt {α : Type} {l : List α} {ix : Int} {z : α} (hz : idx l ix = some z) : 0 ≤ ix ∧ ix < (l.length : Int) := by
 obtain ⟨h0, _, h1⟩ := idx_lt hz
 exact ⟨h0, by omega⟩
variable {ks : List (Nat × (World → Prop))} {fuel : Nat} {done : List Nat}
theorem WA_tabIndex {q : Nat} {S : World → Prop} {t e : TypeId} {x y : Operand} {b o nn k : Nat} {kd : IntKind} {ix : Int} (i d : Nat) (po : Nat) (hpo : po = o + ix.toNat * k) (ho : opAt ops L i = some (some d, .indexAddr t x y)) (hd : Nat.blt d n = true)
  (hsT : takeOK ops ks q i done = true) (hmem : (q, S) ∈ ks) (hq : QP Q)
  (hx : evL L x = some (.pointer (some ⟨b, o, none⟩))) (hy : evL L y = some (.int kd ix)) (hi : arrInfo P t = some (e, nn, k)) (h0 : 0 ≤ ix) (h1 : ix < (nn : Int))
  (h : WA P n ops Q ks fuel (done ++ [i]) ((d, .pointer (some ⟨b, po, none⟩)) :: L) w) : WA P n ops Q ks (fuel + 1) done L w := by
 obtain ⟨h2, inf, h3, h4⟩ := arrInfo_spec hi
 subst hpo
 refine WA_take i d _ _ ho hd hsT hmem hq (fun q hq w' _ => ?_) h
 simp [execOp, hq, Instr.indexAt, Instr.sureAddr, evD_of hx, evD_of hy, asIntOf, run_underlying h2, h0, h1, sizeOf, typeInfo, h3, h4, Addr.add]
def cmpS (a b : ByteArray) : Int :=
 match (List.range (min a.size b.size)).find? fun i => a[i]! != b[i]! with
 | some i => if a[i]! < b[i]! then -1 else 1
 | none => if a.size < b.size then -1 else if a.size > b.size then 1 else 0
theorem One_cmpStr {f : FuncId} {fn : Func} {x y : Operand} {ts : Array TypeId} {s u : ByteArray} (ho : opAt ops L i = some (some d, .call { callee := .value (.func f), args := #[x, y], argTypes := ts })) (hd : Nat.blt d n = true)
  (hx : evL L x = some (.string s)) (hy : evL L y = some (.string u)) (hf : P.funcs[f]? = some fn) (h1 : (fn.name == "runtime.NumGoroutine", fn.body.isNone, (Extern.findNext fn).isNone) = (false, true, true)) (h2 : Extern.find fn = some Extern.BytealgCompare.compare)
  (h : N ((d, .int .i64 (cmpS s u)) :: L) w) : One P n ops Q i N L w := by
 refine One_extern [.string s, .string u] _ ho hd (by simp [evD_of hx, evD_of hy]) hf h1 h2 ?_ h
 rfl
end Go.Dc
