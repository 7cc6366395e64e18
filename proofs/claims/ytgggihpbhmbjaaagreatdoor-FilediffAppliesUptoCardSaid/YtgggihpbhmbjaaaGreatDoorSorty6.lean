/- slices.SortFunc at structs, over arrays that are owned. No condition. -/
import Derived.Test.YtgggihpbhmbjaaaGreatDoorInsy6
import Derived.Test.YtgggihpbhmbjaaaGreatDoorFramey6
import Derived.Shelf.SlSortCmp.NoneTotal
namespace Go.Dc
open Go.Proofs Go.Shelf Go.Sort
theorem grown_of {w w' : World} {m' : Mem} {own : List Piece} (hle : Mem.le (snap w) m') (st : St m' own w') : ∃ q os, w' = grow (w.drewN q) os := by
 have hs := st.1.2.2
 have hw : m'.wd = w := hle.2.2.symm
 rw [hw] at hs
 obtain ⟨⟨h1, h2⟩, h3, h4⟩ := hs
 have hh : ∀ (b : Nat) (x : Obj), w.heap[b]? = some x → w'.heap[b]? = some x := fun b x hb => st.1.2.1 b x (hle.2.1 b x hb)
 refine ⟨w'.drawn - w.drawn, w'.heap.extract w.heap.size w'.heap.size, ?_⟩
 have hsz : w.heap.size ≤ w'.heap.size := by
  rcases Nat.eq_zero_or_pos w.heap.size with h | h
  ·omega
  ·have := hh (w.heap.size - 1) _ (Array.getElem?_eq_getElem (show w.heap.size - 1 < w.heap.size by omega))
   have := (Array.getElem?_eq_some_iff.1 this).1
   omega
 have hheap : w.heap ++ w'.heap.extract w.heap.size w'.heap.size = w'.heap := by
  apply Array.ext
  ·simp; omega
  ·intro i h5 h6
   rw [Array.getElem_append]
   split
   ·rename_i h7
    have := hh i _ (Array.getElem?_eq_getElem h7)
    exact ((Array.getElem?_eq_some_iff.1 this).2).symm
   ·rename_i h7
    rw [Array.getElem_extract]
    congr 1; omega
 have hd : w.drawn + (w'.drawn - w.drawn) = w'.drawn := by omega
 cases w'
 simp only at h1 h2 h3 hheap hd
 simp only [grow, World.drewN, h1, h2, h3, hheap, hd]
theorem flatK_flat {α : Type} [Inhabited α] {f : α → List Value} {k : Nat} (hf : ∀ x, (f x).length = k) (l : List α) (t : Nat) (ht : t < l.length * k) : (l.flatMap f)[t]? = some (flatK f k l.toArray)[t]! := by
 have hk : 0 < k := Nat.pos_of_ne_zero fun h0 => by (subst h0; simp at ht)
 have hd : t / k < l.length := (Nat.div_lt_iff_lt_mul hk).2 ht
 have hm := Nat.mod_lt t hk
 have hx : l[t / k]? = some l[t / k] := by simp [hd]
 have e : t = (t / k) * k + t % k := by rw [Nat.mul_comm]; exact (Nat.div_add_mod t k).symm
 have h1 := qNe hf l (t / k) _ (t % k) hx hm
 rw [← e] at h1
 rw [get_flatK _ _ _ t (by simpa using ht), h1]
 simp [hd, hf, hm]
variable {P : Program} {ρ : Ren} {α : Type} [Inhabited α] {m : Mem} {own : List Piece} {w : World}
theorem Calls_sortK (L : SlLaysF0.n6 P ρ) {k : Nat} {f : α → List Value} (aE : ∀ w, (isAgg (ρ.t 24)).run P w = .ok true w) (zE : ∀ w, (Go.sizeOf (ρ.t 24)).run P w = .ok k w) (hf : ∀ x, (f x).length = k) (h1 : ∀ x, ∀ v ∈ f x, v.oneCell' = true)
  (cf : α → α → Int) (hO : SWO (ltOf cf)) (hT : ∀ x y, (ltOf cf) x y = false → (ltOf cf) y x = false → x = y) (g : Nat) (eg : ∀ args w, (callFunc g args).run P w = .ok (.enter g args) w)
  (hcl : ∀ (x y : α) (W : World), Calls P g #[.agg (f x).toArray, .agg (f y).toArray] W fun r w' => ∃ m', r = .returned (.int .i64 (cf x y)) ∧ (snap W).le m' ∧ St m' [] w')
  {a : Option Addr} {l : List α} {cap : Nat} {T : List Value} {e : TypeId} (st : St m (opc a (qAr f l T) e :: own) w) (hs : OAS a l.length cap k T) (hlen : l.length < 4611686018427387904) :
  Calls P (ρ.f 6) #[.slice a l.length cap, .func (.func g) #[] #[]] w fun r w' => r = .returned (.tuple #[]) ∧ St m (opc a (qAr f (l.mergeSort fun x y => !(ltOf cf) y x) T) e :: own) w' := by
 obtain ⟨q1, q2, q3⟩ := hs
 cases a with
 | none =>
  simp only at q3
  have hl : l = [] := List.eq_nil_of_length_eq_zero (by omega)
  subst hl
  refine (AnyF.slices_SortFunc_none { L with } none cap (.func (.func g) #[] #[]) w).mono fun r w' h => ?_
  obtain ⟨rfl, rfl⟩ := h
  exact ⟨rfl, by simpa using st⟩
 | some p =>
  simp only at q3
  obtain ⟨hp, hT'⟩ := q3
  obtain ⟨b, o, s⟩ := p
  simp only [Addr.mk.injEq, true_and] at hp
  obtain ⟨rfl, rfl⟩ := hp
  have st0 : St m (.blk b (.cells (qAr f l T) e (0, 0)) :: own) w := st
  have hb := st0.head.1
  have hlt := qKt hb
  have hfl := qIz hf l
  have hH : HoldsK f k w b 0 l.toArray := by
   intro j hj
   have hj' : j < l.length * k := by simpa using hj
   have hc : (qAr f l T)[j]? = some (flatK f k l.toArray)[j]! := by
    simp only [qAr, List.getElem?_toArray]
    rw [List.getElem?_append_left (by omega), flatK_flat hf l j hj']
   refine ⟨?_, ?_⟩
   ·simp only [World.cell?, hb, Nat.zero_add]
    simpa using hc
   ·simp [World.frozen?, hb]
  refine (AnyQ.slices_SortFunc_total L k aE zE f hf h1 cf hO g #[] b 0 cap l.toArray w eg (fun m' os dk _ x y => ?_) hH hlt (by simpa using hlen) hT).mono fun r w' h => ?_
  ·refine (hcl x y _).mono fun r w' h => ?_
   obtain ⟨m', rfl, hle, st'⟩ := h
   exact ⟨rfl, grown_of hle st'⟩
  ·obtain ⟨rfl, n, os, rfl⟩ := h
   refine ⟨rfl, ?_⟩
   generalize hl' : l.mergeSort (fun x y => !(ltOf cf) y x) = l'
   have hll : l'.length = l.length := by rw [← hl']; simp
   have hfl' := qIz hf l'
   have hcells : putCells id 0 (flatK f k l'.toArray) (qAr f l T) = qAr f l' T := by
    apply Array.ext_getElem?
    intro t
    simp only [putCells, Array.getElem?_mapIdx, qAr, List.getElem?_toArray, size_flatK, List.size_toArray, Nat.zero_add, Nat.zero_le, true_and, Nat.sub_zero, id]
    by_cases ht : t < l'.length * k
    ·rw [List.getElem?_append_left (l₁ := l'.flatMap f) (by omega), flatK_flat hf l' t ht]
     have : (l.flatMap f ++ T)[t]? = some ((l.flatMap f ++ T)[t]'(by simp only [List.length_append]; rw [hfl, ← hll]; omega)) := by simp
     rw [this]
     simp [ht]
    ·rw [List.getElem?_append_right (l₁ := l'.flatMap f) (by omega), List.getElem?_append_right (l₁ := l.flatMap f) (by rw [hfl, ← hll]; omega), hfl, hfl', hll]
     rw [hll] at ht
     simp [ht, hll]
   refine (st0.set (w' := sortWorldK f k w b 0 n l'.toArray os) (o' := .cells (qAr f l' T) e (0, 0)) ⟨⟨rfl, rfl⟩, rfl, ?_⟩ ?_ ?_ : St m (.blk b (.cells (qAr f l' T) e (0, 0)) :: own) _)
   ·show w.drawn ≤ w.drawn + n; omega
   ·show ((w.heap.modify b (onCells (putCells id 0 (flatK f k l'.toArray)))) ++ os)[b]? = _
    rw [Array.getElem?_append_left (by simpa using hlt), Array.getElem?_modify, if_pos rfl, hb]
    simp only [Option.map_some, onCells, hcells]
   ·intro j hj hne
    show ((w.heap.modify b (onCells (putCells id 0 (flatK f k l'.toArray)))) ++ os)[j]? = _
    rw [Array.getElem?_append_left (by simpa using hj), Array.getElem?_modify, if_neg (Ne.symm hne)]
theorem Calls_sortKL (L : SlLaysF0.n6 P ρ) {k : Nat} {f : α → List Value} (aE : ∀ w, (isAgg (ρ.t 24)).run P w = .ok true w) (zE : ∀ w, (Go.sizeOf (ρ.t 24)).run P w = .ok k w) (hf : ∀ x, (f x).length = k) (h1 : ∀ x, ∀ v ∈ f x, v.oneCell' = true)
  (cf : α → α → Int) (hO : SWO (ltOf cf)) (g : Nat) (eg : ∀ args w, (callFunc g args).run P w = .ok (.enter g args) w)
  (hcl : ∀ (x y : α) (W : World), Calls P g #[.agg (f x).toArray, .agg (f y).toArray] W fun r w' => ∃ m', r = .returned (.int .i64 (cf x y)) ∧ (snap W).le m' ∧ St m' [] w')
  {a : Option Addr} {l : List α} (hT : ∀ x ∈ l, ∀ y ∈ l, (ltOf cf) x y = false → (ltOf cf) y x = false → x = y) {cap : Nat} {T : List Value} {e : TypeId} (st : St m (opc a (qAr f l T) e :: own) w) (hs : OAS a l.length cap k T) (hlen : l.length < 4611686018427387904) :
  Calls P (ρ.f 6) #[.slice a l.length cap, .func (.func g) #[] #[]] w fun r w' => r = .returned (.tuple #[]) ∧ St m (opc a (qAr f (l.mergeSort fun x y => !(ltOf cf) y x) T) e :: own) w' := by
 by_cases hl0 : l = []
 ·subst hl0
  haveI : Inhabited {x : α // x = default} := ⟨⟨default, rfl⟩⟩
  have := Calls_sortK (f := fun x : {x : α // x = default} => f x.1) L aE zE (fun x => hf _) (fun x => h1 _) (fun x y => cf x.1 y.1) ⟨fun x => hO.irrefl _, fun x y z => hO.trans _ _ _, fun x y z => hO.ntrans _ _ _⟩
   (fun x y _ _ => Subtype.ext (x.2.trans y.2.symm)) g eg (fun x y W => hcl _ _ W) (l := []) (a := a) (cap := cap) (T := T) (e := e) (own := own) (m := m) (w := w) (by simpa [qAr] using st) (by simpa using hs) (by simp)
  simpa [qAr] using this
 ·haveI : Inhabited {x // x ∈ l} := ⟨⟨l.head hl0, List.head_mem hl0⟩⟩
  have hfl : ∀ k : List {x // x ∈ l}, (k.flatMap fun x => f x.1) = (k.map Subtype.val).flatMap f := fun k => by rw [List.flatMap_map]
  have e0 : qAr (fun x : {x // x ∈ l} => f x.1) l.attach T = qAr f l T := by unfold qAr; rw [hfl]; simp
  have hO' : SWO (ltOf fun x y : {x // x ∈ l} => cf x.1 y.1) := ⟨fun x => hO.irrefl _, fun x y z => hO.trans _ _ _, fun x y z => hO.ntrans _ _ _⟩
  have := Calls_sortK (f := fun x : {x // x ∈ l} => f x.1) L aE zE (fun x => hf _) (fun x => h1 _) (fun x y => cf x.1 y.1) hO' (fun x y h2 h3 => Subtype.ext (hT _ x.2 _ y.2 h2 h3)) g eg (fun x y W => hcl _ _ W) (l := l.attach) (a := a) (cap := cap) (T := T) (e := e) (own := own) (m := m) (w := w)
   (by rw [e0]; exact st) (by simpa using hs) (by simpa using hlen)
  rw [show (l.attach).length = l.length by simp] at this
  refine this.mono fun r w' h => ⟨h.1, ?_⟩
  have h2 := h.2
  have e1 : ∀ k : List {x // x ∈ l}, qAr (fun x : {x // x ∈ l} => f x.1) k T = qAr f (k.map Subtype.val) T := fun k => by unfold qAr; rw [hfl]
  have e2 : (l.attach.mergeSort fun x y => !ltOf (fun x y : {x // x ∈ l} => cf x.1 y.1) y x).map Subtype.val = (l.attach.map Subtype.val).mergeSort (fun x y => !(ltOf cf) y x) := List.map_mergeSort (fun a _ b _ => rfl)
  rw [e1, e2] at h2
  simpa using h2
end Go.Dc
