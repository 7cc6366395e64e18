/- Tables: arrays of the function's own that it only reads, at an index that is not known. No condition. -/
import Derived.Test.YtgggihpbhmbjaaaGreatDoorInsy6
namespace Go.Dc
variable {P : Program} {n : Fr} {ops : Array Oper} {Q : Exit → Act → World → Prop} {i d : Nat} {L : Env} {w : World} {m : Mem} {own : List Piece} {N : Env → World → Prop}
variable {ks : List (Nat × (World → Prop))} {fuel : Nat} {done : List Nat}
def cmpS (a b : ByteArray) : Int :=
 match (List.range (min a.size b.size)).find? fun i => a[i]! != b[i]! with
 | some i => if a[i]! < b[i]! then -1 else 1
 | none => if a.size < b.size then -1 else if a.size > b.size then 1 else 0
theorem One_cmpStr {f : FuncId} {fn : Func} {x y : Operand} {ts : Array TypeId} {s u : ByteArray} (ho : opAt ops L i = some (some d, .call { callee := .value (.func f), args := #[x, y], argTypes := ts })) (hd : Nat.blt d n = true)
  (hx : evL L x = some (.string s)) (hy : evL L y = some (.string u)) (hf : P.funcs[f]? = some fn) (h1 : (fn.name == "runtime.NumGoroutine", fn.body.isNone, (Extern.findNext fn).isNone) = (false, true, true)) (h2 : Extern.find fn = some Extern.BytealgCompare.compare)
  (h : N ((d, .int .i64 (cmpS s u)) :: L) w) : One P n ops Q i N L w := by
 refine One_extern [.string s, .string u] _ ho hd (by simp [qBp hx, qBp hy]) hf h1 h2 ?_ h
 rfl
end Go.Dc
