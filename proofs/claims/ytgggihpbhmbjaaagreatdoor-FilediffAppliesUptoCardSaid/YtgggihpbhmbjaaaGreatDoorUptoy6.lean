/- Opening arguments of small bulk. No condition. -/
import Derived.Test.YtgggihpbhmbjaaaGreatDoorFramey6
import Derived.Test.YtgggihpbhmbjaaaGreatDoorRows
namespace Go.Proofs.YtgggihpbhmbjaaaGreatDoor
open Go Go.Dc Go.ChangeShapes Go.WideShapes Go.ChangeAt Go.RowKit
theorem bulk_part {H : Type} {d : DataW H} : ∀ {l : List (DataW H)}, d ∈ l → Rows.uptoBulk d ≤ Rows.uptoBulkAll l
 | [], h => by cases h
 | x :: r, h => by
  simp only [Rows.uptoBulkAll]
  rcases List.mem_cons.1 h with rfl | h
  ·omega
  ·have := bulk_part h; omega
theorem bulk_pos {H : Type} (d : DataW H) : 1 ≤ Rows.uptoBulk d := by
 cases d with
 | lit l => cases l <;> simp [Rows.uptoBulk]
 | _ => simp [Rows.uptoBulk]
theorem bulk_len {H : Type} : ∀ (l : List (DataW H)), l.length ≤ Rows.uptoBulkAll l
 | [] => Nat.zero_le _
 | x :: r => by
  have h1 := bulk_pos x
  have h2 := bulk_len r
  simp only [Rows.uptoBulkAll, List.length_cons]; omega
def OpensU {α : Type} (P : Program) (W : World) (t : TypeId) (c : Codec α) (good : α → Prop) : Prop :=
 P.cellsOf t = c.sz ∧ ∀ (H : Type) (enc : TypeId × Value → H) (n : Nat) (cs : List Value) (x : DataW H × List MemPlace), DataW.trod enc P W 0 (fun _ => true) true n t cs = some x →
  Rows.uptoBulk x.1 ≤ 1048576 → ∃ a, c.rep (snap W) a cs ∧ good a
variable {P : Program} {W : World}
theorem opensU_int {t : TypeId} {k : IntKind} (ht : P.underlying t = some (.int k)) (hc : P.cellsOf t = 1) : OpensU P W t (cInt k) (fun x => (Lit.int k x).wf = true) := by
 refine ⟨hc, fun H enc n cs x h _ => ?_⟩
 obtain ⟨i, rfl, _, hw⟩ := DataW.trod_int ht h
 exact ⟨i, rfl, hw⟩
theorem qMi {t : TypeId} (ht : P.underlying t = some .string) (hc : P.cellsOf t = 1) : OpensU P W t cStr (fun s => s.size ≤ 1048576) := by
 refine ⟨hc, fun H enc n cs x h hw => ?_⟩
 obtain ⟨s, rfl, rfl, _⟩ := DataW.trod_string ht h
 simp only [Rows.uptoBulk] at hw
 have hs : s.data.toList.length = s.size := by simp
 exact ⟨s, rfl, by first | omega | (simp at hw; omega)⟩
theorem opensU_slice {α : Type} {c : Codec α} {good : α → Prop} {t e : TypeId} (ht : P.underlying t = some (.slice e)) (hc : P.cellsOf t = 1) (ho : OpensU P W e c good) :
  OpensU P W t (cSl c) (fun l => l.length ≤ 1048576 ∧ ∀ x ∈ l, good x) := by
 refine ⟨hc, fun H enc n cs x h hw => ?_⟩
 rcases DataW.trod_slice ht h with ⟨rfl, rfl⟩ | ⟨a, len, cap, elems, rest, n', rfl, rfl, rfl, _, hl, hm, hlen, hel, _, _⟩
 ·exact ⟨[], ⟨none, 0, rfl, RepS.nil _ _⟩, by simp, by simp⟩
 ·simp only [Rows.uptoBulk] at hw
  have hb2 := bulk_len (elems.map (·.1))
  have key : ∀ i, i < len → ∃ y cs', W.cells? 0 (a.add (i * P.cellsOf e)) (P.cellsOf e) = some cs' ∧ c.rep (snap W) y cs' ∧ good y := by
   intro i hi
   have h1 := hel i hi
   obtain ⟨el, hel'⟩ : ∃ el, elems[i]? = some el := ⟨elems[i]'(by omega), by simp⟩
   rw [hel'] at h1
   obtain ⟨cs', h2, h3⟩ := Option.bind_eq_some_iff.1 h1
   have hbp := bulk_part (l := elems.map (·.1)) (List.mem_map_of_mem (List.mem_of_getElem? hel'))
   obtain ⟨y, hy, hg⟩ := ho.2 H enc n' cs' el h3 (by omega)
   exact ⟨y, cs', h2, hy, hg⟩
  obtain ⟨l, hl1, hl2⟩ := list_of key
  subst hl1
  refine ⟨l, ⟨some a, cap, rfl, hl, hm, ?_, fun i x hx => ?_⟩, ⟨?_, fun x hx => ?_⟩⟩
  ·cases l with
   | nil => exact .inr rfl
   | cons y l =>
    obtain ⟨cs', h2, _⟩ := hl2 0 y rfl
    obtain ⟨_, hle, hcell⟩ := World.cells?_some h2
    have hp := ho.1 ▸ c.pos
    have h0 := hcell 0 hp
    have hlt : 0 < cs'.length := by omega
    rw [List.getElem?_eq_getElem hlt] at h0
    simp only [Nat.zero_mul, Addr.add, if_true] at h0
    exact .inl (World.cell?_spot h0)
  ·obtain ⟨cs', h2, h3, _⟩ := hl2 i x hx
   have hsp : a.spot = none := by
    cases l with
    | nil => simp at hx
    | cons y l =>
     obtain ⟨cs', h2, _⟩ := hl2 0 y rfl
     obtain ⟨_, hle, hcell⟩ := World.cells?_some h2
     have hp := ho.1 ▸ c.pos
     have h0 := hcell 0 hp
     have hlt : 0 < cs'.length := by omega
     rw [List.getElem?_eq_getElem hlt] at h0
     simp only [Nat.zero_mul, Addr.add, if_true] at h0
     exact World.cell?_spot h0
   exact ⟨cs', h3, ho.1 ▸ mrow_of h2 hsp⟩
  ·simp only [List.length_map] at hb2
   omega
  ·obtain ⟨i, hi⟩ := List.mem_iff_getElem?.1 hx
   obtain ⟨cs', _, _, h4⟩ := hl2 i x hi
   exact h4
def OpensFU {α : Type} (P : Program) (W : World) (fs : List Field) (off : Nat) (c : Codec α) (good : α → Prop) : Prop :=
 ∀ (H : Type) (enc : TypeId × Value → H) (n : Nat) (cs : List Value) (xs : List (DataW H × List MemPlace)), (∀ (i : Nat) (f : Field), fs[i]? = some f → DataW.trod enc P W 0 (fun _ => true) true n f.type ((cs.drop f.offset).take (P.cellsOf f.type)) = xs[i]?) →
  xs.length = fs.length → Rows.uptoBulkAll (xs.map (·.1)) ≤ 1048576 → ∃ a, c.rep (snap W) a ((cs.drop off).take c.sz) ∧ good a
theorem opensFU_one {α : Type} {c : Codec α} {good : α → Prop} {f : Field} {off : Nat} (hf : f.offset = off) (ho : OpensU P W f.type c good) : OpensFU P W [f] off c good := by
 intro H enc n cs xs h hl hw
 obtain ⟨x, rfl⟩ : ∃ x, xs = [x] := by
  match xs, hl with
  | [x], _ => exact ⟨x, rfl⟩
 have h0 := h 0 f rfl
 simp only [List.map_cons, List.map_nil, Rows.uptoBulkAll] at hw
 rw [hf, ho.1] at h0
 exact ho.2 H enc n _ x h0 (by omega)
theorem qLw {α β : Type} {c : Codec α} {d : Codec β} {good : α → Prop} {good2 : β → Prop} {f : Field} {fs : List Field} {off : Nat} (hf : f.offset = off) (ho : OpensU P W f.type c good) (ht : OpensFU P W fs (off + c.sz) d good2) :
  OpensFU P W (f :: fs) off (qAi c d) (fun p => good p.1 ∧ good2 p.2) := by
 intro H enc n cs xs h hl hw
 obtain ⟨x, xs, rfl⟩ : ∃ x r, xs = x :: r := by
  match xs, hl with
  | x :: r, _ => exact ⟨x, r, rfl⟩
 have h0 := h 0 f rfl
 simp only [List.map_cons, Rows.uptoBulkAll] at hw
 rw [hf, ho.1] at h0
 obtain ⟨a, ha, hg⟩ := ho.2 H enc n _ x h0 (by omega)
 obtain ⟨b, hb, hg2⟩ := ht H enc n cs xs (fun i f hi => h (i + 1) f hi) (by simpa using hl) (by omega)
 refine ⟨(a, b), ⟨_, _, ?_, ha, hb⟩, hg, hg2⟩
 show (cs.drop off).take (c.sz + d.sz) = _
 rw [List.take_add, List.drop_drop]
theorem qMt {α : Type} {c : Codec α} {good : α → Prop} {t : TypeId} {fs : Array Field} (ht : P.underlying t = some (.struct fs)) (hc : P.cellsOf t = c.sz) (ho : OpensFU P W fs.toList 0 c good) : OpensU P W t c good := by
 refine ⟨hc, fun H enc n cs x h hw => ?_⟩
 obtain ⟨xs, n', rfl, rfl, hl, hx, hel⟩ := DataW.trod_struct ht h
 simp only [Rows.uptoBulk] at hw
 obtain ⟨a, ha, hg⟩ := ho H enc n' cs xs (fun i f hi => hel i f (by simpa using hi)) (by simpa using hx) (by omega)
 rw [List.drop_zero, ← hc, ← hl, List.take_length] at ha
 exact ⟨a, ha, hg⟩
variable {H : Type} {enc : TypeId × Value → H} {base : Nat} {t : TypeId} {v : Value} {d : DataW H} {ps : List MemPlace}
theorem argU_struct {α : Type} {c : Codec α} {good : α → Prop} {fs : Array Field} (ht : P.underlying t = some (.struct fs)) (ho : OpensU P W t c good) (hval : Value.okWide P W .any base t v) (h : DataW.Trod enc P W 0 (fun _ => true) true t v d ps)
  (hw : Rows.uptoBulk d ≤ 1048576) : ∃ (a : α) (cs : Array Value), v = .agg cs ∧ c.rep (snap W) a cs.toList ∧ good a := by
 simp only [Value.okWide, ht] at hval
 obtain ⟨cs, rfl, _, _⟩ := hval
 obtain ⟨n, h⟩ := h
 obtain ⟨a, ha, hg⟩ := ho.2 H enc n _ _ h hw
 exact ⟨a, cs, rfl, by simpa [Value.cells] using ha, hg⟩
theorem argU_slice {α : Type} {c : Codec α} {good : List α → Prop} {e : TypeId} (ht : P.underlying t = some (.slice e)) (ho : OpensU P W t (cSl c) good) (hval : Value.okWide P W .any base t v) (h : DataW.Trod enc P W 0 (fun _ => true) true t v d ps)
  (hw : Rows.uptoBulk d ≤ 1048576) : ∃ (l : List α) (a : Option Addr) (cap : Nat), v = .slice a l.length cap ∧ RepS c (snap W) a cap l ∧ good l := by
 obtain ⟨a, len, cap, rfl⟩ := okWide_slice ht hval
 obtain ⟨n, h⟩ := h
 obtain ⟨l, ⟨a', cap', he, hr⟩, hg⟩ := ho.2 H enc n _ _ h hw
 simp only [Value.cells, List.cons.injEq, Value.slice.injEq, and_true] at he
 obtain ⟨rfl, rfl, rfl⟩ := he
 exact ⟨l, _, _, rfl, hr, hg⟩
end Go.Proofs.YtgggihpbhmbjaaaGreatDoor
