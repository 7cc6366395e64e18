/- The frame of a law: the arguments are opened as plain data, and read behind the call as they did. No condition. -/
import Derived.Test.YtgggihpbhmbjaaaGreatDoorMapy6
import Derived.HandedShaped
import Derived.ChangeStays
import Derived.ChangeSame
import Derived.OpenShut
import Derived.WideShapes
import Derived.JoinedOf
import Derived.ReadAgain
import Derived.ChangeAt
import Derived.RowKit
namespace Go.Dc
open Go.ChangeShapes Go.WideShapes Go.ChangeAt Go.RowKit
def snap (w : World) : Mem := { cell := fun b o => w.cell? ⟨b, o, none⟩, obj := fun b => w.heap[b]?, wd := w }
theorem snap_st (w : World) : St (snap w) [] w := by
 refine ⟨⟨fun b o v h => ?_, fun _ _ h => h, Step.refl w⟩, ⟨fun p hp => absurd hp (List.not_mem_nil), List.nodup_nil⟩⟩
 simp only [snap, World.cell?] at h
 split at h
 ·rename_i c e f hb
  exact ⟨_, _, _, hb, by simpa using h⟩
 ·cases h
theorem snap_after {w w' : World} {m' : Mem} {own : List Piece} (hle : Mem.le (snap w) m') (st : St m' own w') :
  w'.os = w.os ∧ w'.output = w.output ∧ ∀ (b : Nat) (x : Obj), w.heap[b]? = some x → w'.heap[b]? = some x := by
 have hs := st.1.2.2
 have hw : m'.wd = w := hle.2.2.symm
 rw [hw] at hs
 exact ⟨hs.1.1, hs.1.2, fun b x hb => st.1.2.1 b x (hle.2.1 b x hb)⟩
theorem kept_of {w w' : World} (h1 : w'.os = w.os) (h2 : w'.output = w.output) (h3 : ∀ (b : Nat) (x : Obj), w.heap[b]? = some x → w'.heap[b]? = some x) (may : MemPlace → Prop) : w.keptBut w' may := by
 refine ⟨h1, h2, fun i hi => ?_⟩
 obtain ⟨x, hx⟩ : ∃ x, w.heap[i]? = some x := ⟨w.heap[i], by simp [hi]⟩
 rw [h3 i x hx, hx]
 cases x <;> simp
theorem same_of {w w' : World} (h3 : ∀ (b : Nat) (x : Obj), w.heap[b]? = some x → w'.heap[b]? = some x) {p : MemPlace} (hp : p.block < w.heap.size) : w.sameAt w' p := by
 obtain ⟨x, hx⟩ : ∃ x, w.heap[p.block]? = some x := ⟨w.heap[p.block], by simp [hp]⟩
 cases p with
 | cell b off => simp only [World.sameAt, World.cell?, MemPlace.block] at hx ⊢; rw [h3 b x hx, hx]
 | map b => simp only [World.sameAt, MemPlace.block] at hx ⊢; rw [h3 b x hx, hx]
section
variable {H : Type} {enc : TypeId × Value → H} {P : Program}
theorem trodAll_back {w w' : World} {sp : Nat → Bool} {T : TypeId → Prop} (K : Kids P T) (hz : ∀ {t e : TypeId}, T t → P.underlying t = some (.slice e) → 0 < P.cellsOf e)
  (h3 : ∀ (b : Nat) (x : Obj), w.heap[b]? = some x → w'.heap[b]? = some x) : ∀ {ts : List TypeId} {vs : List Value} {ds : List (DataW H)} {ps : List MemPlace}, (∀ t ∈ ts, T t) →
  DataW.TrodAll enc P w 0 (fun _ => true) true ts vs ds ps → (∀ p ∈ ps, p.block < w.heap.size) → (∀ p ∈ ps, sp p.block = true) → DataW.TrodAll enc P w' 0 sp true ts vs ds ps
 | [], [], [], _, _, h, _, _ => h
 | t :: ts, v :: vs, d :: ds, ps, ht, h, hl, hs => by
  obtain ⟨p, q, ⟨fuel, h1⟩, h2, rfl⟩ := h
  exact ⟨p, q, ⟨fuel, DataW.trod_stays K hz (fun e => by cases e) (ht t (List.mem_cons_self ..)) h1 (fun x hx => same_of h3 (hl x (List.mem_append_left _ hx))) (fun x hx => hs x (List.mem_append_left _ hx))⟩,
   trodAll_back K hz h3 (fun u hu => ht u (List.mem_cons_of_mem _ hu)) h2 (fun x hx => hl x (List.mem_append_right _ hx)) (fun x hx => hs x (List.mem_append_right _ hx)), rfl⟩
 | [], _ :: _, _, _, _, h, _, _ => by simp [DataW.TrodAll] at h
 | [], [], _ :: _, _, _, h, _, _ => by simp [DataW.TrodAll] at h
 | _ :: _, [], _, _, _, h, _, _ => by simp [DataW.TrodAll] at h
 | _ :: _, _ :: _, [], _, _, h, _, _ => by simp [DataW.TrodAll] at h
theorem post_law {f : Func} {s : ChangeSpec} {apart fresh handsOn : Bool} {W W' : World} {args : Array Value} {ds gs : List (DataW H)} {before : List MemPlace} {tb : TypeId} {T : TypeId → Prop} (K : Kids P T)
  (hz : ∀ {t e : TypeId}, T t → P.underlying t = some (.slice e) → 0 < P.cellsOf e) (hts : ∀ t ∈ f.params.toList, T t)
  (hr : f.resultTypes = #[tb]) (htb : P.underlying tb = some .bool) (hv : s.vars = []) (hfn : s.fn H (ds ++ gs) = { results := [.lit (.bool true)], args := ds })
  (hW : DataW.Whole enc P f.params.toList s.vars apart W args.toList ds gs before) {m' : Mem} {own : List Piece} (hle : Mem.le (snap W) m') (st : St m' own W') :
  s.post enc P f apart fresh handsOn false W args (.bool true) W' := by
 obtain ⟨h1, h2, h3⟩ := snap_after hle st
 have hW' := hW
 obtain ⟨p, q, hA, hV, rfl, hfz, hnd⟩ := hW
 have hlt : ∀ x ∈ p ++ q, x.block < W.heap.size := fun x hx => hW'.lt x hx
 rw [hv] at hV
 have hq : q = [] := by
  cases gs with
  | nil => exact hV
  | cons g r => simp [DataW.TrodVars] at hV
 subst hq
 refine ⟨ds, gs, _, [], p, [], hW', ?_, ?_, ?_, kept_of h1 h2 h3 _, fun e => by cases e⟩
 ·rw [hfn, hr]
  exact ⟨[], [], ⟨1, by simp [DataW.trod, Value.cells, htb]⟩, rfl, rfl⟩
 ·rw [hfn]
  exact trodAll_back K hz h3 hts hA (fun x hx => hlt x (List.mem_append_left _ hx)) (fun x hx => by simpa using hlt x (List.mem_append_left _ hx))
 ·rw [hfn, hv]; rfl
def Opens {α : Type} (P : Program) (W : World) (t : TypeId) (c : Codec α) (good : α → Prop) : Prop :=
 P.cellsOf t = c.sz ∧ ∀ (H : Type) (enc : TypeId × Value → H) (n : Nat) (cs : List Value) (x : DataW H × List MemPlace), DataW.trod enc P W 0 (fun _ => true) true n t cs = some x →
  (x.1.weights P t).all (· ≤ reachBytes) = true → ∃ a, c.rep (snap W) a cs ∧ good a
variable {W : World}
theorem mrow_of {a : Addr} {cs : List Value} {k n : Nat} (h : W.cells? 0 (a.add k) n = some cs) (ha : a.spot = none) : MRow (snap W) a.block (a.off + k) cs := by
 obtain ⟨_, hl, hc⟩ := World.cells?_some h
 intro j v hv
 have hj : j < n := by rw [← hl]; exact (List.getElem?_eq_some_iff.1 hv).1
 have := hc j hj
 rw [hv, Go.Addr.add_add, qMp ha] at this
 simpa [snap, Nat.add_assoc] using this
theorem list_of {α : Type} {Q : Nat → α → List Value → Prop} : ∀ {n : Nat}, (∀ i, i < n → ∃ y cs, Q i y cs) → ∃ l : List α, l.length = n ∧ ∀ i x, l[i]? = some x → ∃ cs, Q i x cs
 | 0, _ => ⟨[], rfl, fun i x h => by simp at h⟩
 | n + 1, h => by
  obtain ⟨l, h1, h2⟩ := list_of (n := n) (fun i hi => h i (by omega))
  obtain ⟨y, cs, hy⟩ := h n (by omega)
  refine ⟨l ++ [y], by simp [h1], fun i x hx => ?_⟩
  rw [List.getElem?_append] at hx
  split at hx
  ·exact h2 i x hx
  ·rename_i hi
   have : i = n := by
    have := (List.getElem?_eq_some_iff.1 hx).1
    simp at this; omega
   subst this
   simp [h1] at hx
   subst hx
   exact ⟨cs, hy⟩
variable {base : Nat} {t : TypeId} {v : Value} {d : DataW H} {ps : List MemPlace}
end
def slicesB (P : Program) : Bool := (List.range P.types.size).all fun t => match P.underlying t with
 | some (.slice e) => Nat.blt 0 (P.cellsOf e)
 | _ => true
theorem slices_of {P : Program} (h : slicesB P = true) {t e : TypeId} (ht : t < P.types.size) (he : P.underlying t = some (.slice e)) : 0 < P.cellsOf e := by
 have := List.all_eq_true.1 h t (List.mem_range.2 ht)
 rw [he] at this
 simp only at this
 exact Nat.le_of_ble_eq_true this
end Go.Dc
