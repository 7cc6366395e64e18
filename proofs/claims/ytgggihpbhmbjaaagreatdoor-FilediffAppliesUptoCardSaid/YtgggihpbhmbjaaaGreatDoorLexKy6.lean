/- Maps in key order; the kinds of bytes of the lexer, in whatever order they are laid. No condition. -/
import Derived.Test.YtgggihpbhmbjaaaGreatDoorTCony6
import Derived.Test.YtgggihpbhmbjaaaGreatDoorPlainy6
namespace Go.Dc
theorem loopM_st {σ β : Type} {f : σ → Option (σ ⊕ β)} (st : Nat → σ) (k : Nat) (res : β) (step : ∀ i, i < k → f (st i) = some (.inl (st (i + 1)))) (stop : f (st k) = some (.inr res)) {N : Nat} (hN : k < N) : qBf f N (st 0) = some res := by
 have key : ∀ d i M, i + d = k → d < M → qBf f M (st i) = some res := by
  intro d
  induction d with
  | zero => intro i M h hM; obtain ⟨M', rfl⟩ : ∃ M', M = M' + 1 := ⟨M - 1, by omega⟩; simp only [Nat.add_zero] at h; subst h; simp [qBf, stop]
  | succ d ih =>
   intro i M h hM
   obtain ⟨M', rfl⟩ : ∃ M', M = M' + 1 := ⟨M - 1, by omega⟩
   have := ih (i + 1) M' (by omega) (by omega)
   simp [qBf, step i (by omega), this]
 exact key k 0 N (by omega) hN
section
variable {ν : Type}
theorem mget_upd_ne {l : List (Int × ν)} {k c : Int} {v : ν} (h : c ≠ k) : mget (l.map fun p => if k = p.1 then (k, v) else p) c = mget l c := by
 induction l with
 | nil => rfl
 | cons p l ih =>
  simp only [List.map_cons, mget]
  by_cases hk : k = p.1
  ·subst hk; rw [if_pos rfl, if_neg h, if_neg h, ih]
  ·rw [if_neg hk, ih]
theorem mget_upd_eq {l : List (Int × ν)} {k : Int} {v : ν} (h : (mget l k).isSome = true) : mget (l.map fun p => if k = p.1 then (k, v) else p) k = some v := by
 induction l with
 | nil => cases h
 | cons p l ih =>
  simp only [List.map_cons, mget] at h ⊢
  by_cases hk : k = p.1
  ·subst hk; simp
  ·rw [if_neg hk] at h ⊢
   rw [if_neg hk]
   exact ih h
theorem mget_mins {l : List (Int × ν)} {k : Int} {v : ν} (h : mget l k = none) (c : Int) : mget (mins l k v) c = if c = k then some v else mget l c := by
 induction l with
 | nil => rfl
 | cons p l ih =>
  simp only [mget] at h
  split at h
  ·cases h
  ·rename_i hk
   simp only [mins]
   split
   ·simp only [mget]
   ·simp only [mget, ih h]
    by_cases hc : c = k
    ·subst hc; simp [hk]
    ·simp [hc]
theorem mget_mset (l : List (Int × ν)) (k : Int) (v : ν) (c : Int) : mget (mset l k v) c = if c = k then some v else mget l c := by
 unfold mset
 split
 ·rename_i h
  split
  ·rename_i hc; subst hc; exact mget_upd_eq h
  ·rename_i hc; exact mget_upd_ne hc
 ·rename_i h
  exact mget_mins (by simpa using h) c
def Srt (l : List (Int × ν)) : Prop := (l.map (·.1)).Pairwise (· < ·)
theorem Srt.nil : Srt ([] : List (Int × ν)) := List.Pairwise.nil
theorem Srt.mins {l : List (Int × ν)} {k : Int} {v : ν} (hs : Srt l) (h : mget l k = none) : Srt (mins l k v) := by
 induction l with
 | nil => simp [Srt, Go.Dc.mins]
 | cons p l ih =>
  have hs' := hs
  simp only [Srt, List.map_cons, List.pairwise_cons] at hs
  simp only [mget] at h
  split at h
  ·cases h
  ·rename_i hk
   simp only [Go.Dc.mins]
   split
   ·rename_i hlt
    have hlt : k < p.1 := by simpa [KOrd.lt] using hlt
    refine List.pairwise_cons.2 ⟨fun a ha => ?_, hs'⟩
    simp only [List.map_cons, List.mem_cons] at ha
    rcases ha with rfl | ha
    ·exact hlt
    ·exact Int.lt_trans hlt (hs.1 a ha)
   ·rename_i hlt
    have hlt : ¬ k < p.1 := by simpa [KOrd.lt] using hlt
    refine List.pairwise_cons.2 ⟨fun a ha => ?_, ih hs.2 h⟩
    obtain ⟨q, hq, rfl⟩ := List.mem_map.1 ha
    rcases List.mem_cons.1 ((mins_perm l k v).mem_iff.1 hq) with rfl | hq
    ·show p.1 < k; omega
    ·exact hs.1 _ (List.mem_map_of_mem hq)
theorem Srt.mset {l : List (Int × ν)} (hs : Srt l) (k : Int) (v : ν) : Srt (mset l k v) := by
 unfold Go.Dc.mset
 split
 ·unfold Srt
  have : (l.map fun p => if k = p.1 then (k, v) else p).map (·.1) = l.map (·.1) := by
   rw [List.map_map]
   refine List.map_congr_left fun p _ => ?_
   simp only [Function.comp_apply]
   split
   ·rename_i h; exact h
   ·rfl
  rw [this]; exact hs
 ·rename_i h
  exact hs.mins (by simpa using h)
theorem Srt.out {l : List (Int × ν)} {c : Int} (h : ∀ a ∈ l.map (·.1), c < a) : mget l c = none := by
 rw [qKp]; intro hm; exact Int.lt_irrefl _ (h c hm)
theorem Srt.ext : ∀ {l k : List (Int × ν)}, Srt l → Srt k → (∀ c, mget l c = mget k c) → l = k
 | [], [], _, _, _ => rfl
 | [], q :: k, _, _, h => by have := h q.1; simp [mget] at this
 | p :: l, [], _, _, h => by have := h p.1; simp [mget] at this
 | p :: l, q :: k, hl, hk, h => by
  have hl' : (∀ a ∈ l.map (·.1), p.1 < a) ∧ Srt l := List.pairwise_cons.1 hl
  have hk' : (∀ a ∈ k.map (·.1), q.1 < a) ∧ Srt k := List.pairwise_cons.1 hk
  have h1 : p.1 = q.1 := by
   rcases Int.lt_trichotomy p.1 q.1 with hlt | he | hlt
   ·have := h p.1
    rw [Srt.out (l := q :: k) (c := p.1)] at this
    ·simp [mget] at this
    ·intro a ha
     rcases List.mem_cons.1 ha with rfl | ha
     ·exact hlt
     ·exact Int.lt_trans hlt (hk'.1 a ha)
   ·exact he
   ·have := h q.1
    rw [Srt.out (l := p :: l) (c := q.1)] at this
    ·simp [mget] at this
    ·intro a ha
     rcases List.mem_cons.1 ha with rfl | ha
     ·exact hlt
     ·exact Int.lt_trans hlt (hl'.1 a ha)
  have h2 : p.2 = q.2 := by have := h p.1; simpa [mget, h1] using this
  have h3 : l = k := by
   refine Srt.ext hl'.2 hk'.2 fun c => ?_
   by_cases hc : c = p.1
   ·rw [Srt.out (l := l) (fun a ha => hc ▸ hl'.1 a ha), Srt.out (l := k) (fun a ha => by rw [hc, h1]; exact hk'.1 a ha)]
   ·have := h c
    simpa [mget, hc, h1 ▸ hc] using this
  rw [h3, Prod.ext h1 h2]
def qLt (v : ν) (m : List (Int × ν)) (xs : List UInt8) : List (Int × ν) := xs.foldl (fun m x => mset m (x.toNat : Int) v) m
theorem putAll_srt {v : ν} : ∀ {xs : List UInt8} {m : List (Int × ν)}, Srt m → Srt (qLt v m xs)
 | [], _, h => h
 | _ :: xs, _, h => putAll_srt (xs := xs) (h.mset _ _)
theorem putAll_get {v : ν} (c : Int) : ∀ (xs : List UInt8) (m : List (Int × ν)), mget (qLt v m xs) c = if xs.any (fun x => decide ((x.toNat : Int) = c)) = true then some v else mget m c
 | [], m => by simp [qLt]
 | x :: xs, m => by
  have := putAll_get (v := v) c xs (mset m (x.toNat : Int) v)
  rw [show qLt v m (x :: xs) = qLt v (mset m (x.toNat : Int) v) xs from rfl, this, mget_mset]
  by_cases h1 : xs.any (fun x => decide ((x.toNat : Int) = c)) = true
  ·simp [h1]
  ·by_cases h2 : (x.toNat : Int) = c
   ·subst h2; simp [h1]
   ·have h3 : ¬ c = (x.toNat : Int) := fun e => h2 e.symm
    simp [h1, h2, h3]
end
end Go.Dc
namespace Go.Proofs.YtgggihpbhmbjaaaGreatDoor
open Go Go.Dc
def allK : List (Int × ByteArray) := [(1, ⟨#[97, 98, 99, 100, 101, 102, 103, 104, 105, 106, 107, 108, 109, 110, 111, 112, 113, 114, 115, 116, 117, 118, 119, 120, 121, 122]⟩), (2, ⟨#[48, 49, 50, 51, 52, 53, 54, 55, 56, 57]⟩), (3, ⟨#[95]⟩), (4, ⟨#[46]⟩), (5, ⟨#[9, 10, 13, 32]⟩), (6, ⟨#[35]⟩), (7, ⟨#[34]⟩), (8, ⟨#[59, 44, 40, 41, 43, 45, 42, 47, 37, 60, 61]⟩)]
def kdL : List (Int × Int) := [(9, 5), (10, 5), (13, 5), (32, 5), (34, 7), (35, 6), (37, 8), (40, 8), (41, 8), (42, 8), (43, 8), (44, 8), (45, 8), (46, 4), (47, 8), (48, 2), (49, 2), (50, 2), (51, 2), (52, 2), (53, 2), (54, 2), (55, 2), (56, 2), (57, 2), (59, 8), (60, 8), (61, 8), (95, 3), (97, 1), (98, 1), (99, 1), (100, 1), (101, 1), (102, 1), (103, 1), (104, 1), (105, 1), (106, 1), (107, 1), (108, 1), (109, 1), (110, 1), (111, 1), (112, 1), (113, 1), (114, 1), (115, 1), (116, 1), (117, 1), (118, 1), (119, 1), (120, 1), (121, 1), (122, 1)]
def kdI (c : Int) : Int := (mget kdL c).getD 0
def inE (e : Int × ByteArray) (c : Int) : Bool := e.2.data.toList.any fun x => decide ((x.toNat : Int) = c)
def layK (m : List (Int × Int)) (k : List (Int × ByteArray)) : List (Int × Int) := k.foldl (fun m e => qLt e.1 m e.2.data.toList) m
theorem layK_srt : ∀ {k : List (Int × ByteArray)} {m : List (Int × Int)}, Srt m → Srt (layK m k)
 | [], _, h => h
 | _ :: k, _, h => layK_srt (k := k) (putAll_srt h)
theorem layK_get (c : Int) : ∀ (k : List (Int × ByteArray)) (m : List (Int × Int)), (∀ e ∈ k, inE e c = true → e.1 = kdI c) → (∀ v, mget m c = some v → v = kdI c) →
  mget (layK m k) c = if (k.any fun e => inE e c) = true then some (kdI c) else mget m c
 | [], m, _, _ => by simp [layK]
 | e :: k, m, h, hm => by
  have hg := putAll_get (v := e.1) c e.2.data.toList m
  have := layK_get c k (qLt e.1 m e.2.data.toList) (fun e' he => h e' (List.mem_cons_of_mem _ he)) (fun v hv => by
   rw [hg] at hv
   split at hv
   ·rename_i hi
    rw [← Option.some.inj hv]
    exact h e (List.mem_cons_self ..) hi
   ·exact hm v hv)
  rw [show layK m (e :: k) = layK (qLt e.1 m e.2.data.toList) k from rfl, this, hg]
  by_cases h1 : (k.any fun e => inE e c) = true
  ·simp [h1]
  ·by_cases h2 : inE e c = true
   ·have := h e (List.mem_cons_self ..) h2
    have h2' : (e.2.data.toList.any fun x => decide ((x.toNat : Int) = c)) = true := h2
    simp only [List.any_cons, h2, Bool.true_or, if_true, h1, h2', this]
    simp
   ·have h2' : (e.2.data.toList.any fun x => decide ((x.toNat : Int) = c)) = false := by simpa [inE] using h2
    simp only [List.any_cons, h1, h2', Bool.or_false, Bool.false_eq_true, if_false]
    simp [h2]
theorem kd_facts : (allK.all fun e => e.2.data.toList.all fun x => decide (e.1 = kdI (x.toNat : Int))) = true ∧ (kdL.all fun p => allK.any fun e => inE e p.1) = true := ⟨by kernel_rfl, by kernel_rfl⟩
theorem kd_in {e : Int × ByteArray} {c : Int} (he : e ∈ allK) (h : inE e c = true) : e.1 = kdI c := by
 have := List.all_eq_true.1 kd_facts.1 e he
 obtain ⟨x, hx, hc⟩ := List.any_eq_true.1 h
 have h2 := List.all_eq_true.1 this x hx
 have hc : (x.toNat : Int) = c := by simpa using hc
 subst hc
 simpa using h2
theorem kdL_get (c : Int) : mget kdL c = if (allK.any fun e => inE e c) = true then some (kdI c) else none := by
 cases h : mget kdL c with
 | none =>
  rw [if_neg]
  intro ha
  obtain ⟨e, he, hi⟩ := List.any_eq_true.1 ha
  have h1 := kd_in he hi
  have h0 : kdI c = 0 := by simp [kdI, h]
  have : (allK.all fun e => decide (e.1 ≠ 0)) = true := by kernel_rfl
  have := List.all_eq_true.1 this e he
  simp [h1, h0] at this
 | some v =>
  have hm : (c, v) ∈ kdL := (qJo (l := kdL) (by
   have : decide ((kdL.map (·.1)).Nodup) = true := by kernel_rfl
   simpa using this)).1 h
  have := List.all_eq_true.1 kd_facts.2 _ hm
  rw [if_pos this]
  simp [kdI, h]
theorem kdL_srt : Srt kdL := by
 have : decide ((kdL.map (·.1)).Pairwise (· < ·)) = true := by kernel_rfl
 simpa [Srt] using this
theorem layK_perm {k : List (Int × ByteArray)} (h : k.Perm allK) : layK [] k = kdL := by
 refine Srt.ext (layK_srt Srt.nil) kdL_srt fun c => ?_
 rw [layK_get c k [] (fun e he hi => kd_in (h.mem_iff.1 he) hi) (fun v hv => by cases hv), kdL_get]
 have : (k.any fun e => inE e c) = (allK.any fun e => inE e c) := by
  rw [Bool.eq_iff_iff, List.any_eq_true, List.any_eq_true]
  exact ⟨fun ⟨e, he, hi⟩ => ⟨e, h.mem_iff.1 he, hi⟩, fun ⟨e, he, hi⟩ => ⟨e, h.mem_iff.2 he, hi⟩⟩
 rw [this]
 rfl
theorem kinds_L1 {N : Nat} {e : Int × ByteArray} (m : List (Int × Int)) (he : e.2.size ≤ 26) (hN : 30 < N) : qEl N (some e) (some m) = some (.inl (some (qLt e.1 m e.2.data.toList))) := by
 have hsz : e.2.data.toList.length = e.2.size := by simp
 have hb : bytesOf e.2 = some e.2.data.toList := by unfold bytesOf; rw [if_pos (by simp only [maxLen]; omega)]
 simp only [qEl, hb, Option.bind_some]
 have key := loopM_st (f := qIa N e e.2.data.toList) (fun i => ((i : Int), some (qLt e.1 m (e.2.data.toList.take i)))) e.2.data.toList.length (some (qLt e.1 m e.2.data.toList)) (fun i hi => ?_) ?_ (N := N) (by omega)
 ·simp only [Int.natCast_zero, List.take_zero] at key
  rw [show qLt e.1 m [] = m from rfl] at key
  rw [key]; rfl
 ·simp only [qIa]
  rw [if_pos (by simpa using hi), qCe hi]
  simp only [Option.bind_some, qIo, Option.map_some]
  rw [wi64 (by omega) (by omega), List.take_succ_eq_append_getElem hi]
  simp [qLt]
 ·simp only [qIa]
  rw [if_neg (by simp), List.take_length]
theorem kinds_loop {N : Nat} (hN : 30 < N) : ∀ (k : List (Int × ByteArray)) (m : List (Int × Int)), (∀ e ∈ k, e.2.size ≤ 26) → qIf (qEl N) k (some m) = some (some (layK m k))
 | [], m, _ => by simp [qIf, qEl, layK]
 | e :: k, m, h => by
  have := kinds_loop hN k (qLt e.1 m e.2.data.toList) (fun e' he => h e' (List.mem_cons_of_mem _ he))
  simp only [qIf, kinds_L1 m (h e (List.mem_cons_self ..)) hN, Option.bind_some, this]
  rfl
theorem kinds_eq {N : Nat} (hN : 30 < N) : qLi N = some (some kdL) := by
 have h8 : ∀ e ∈ allK, e.2.size ≤ 26 := by
  have : (allK.all fun e => decide (e.2.size ≤ 26)) = true := by kernel_rfl
  intro e he
  simpa using List.all_eq_true.1 this e he
 have key : mrange (qEl N) allK (some []) = some (some kdL) := mrange_of fun k hk => by
  rw [kinds_loop hN k [] (fun e he => h8 e (hk.mem_iff.1 he)), layK_perm hk]
 have h1 : qLi N = (mrange (qEl N) allK (some [])).bind fun o1 => some o1 := by kernel_rfl
 rw [h1, key]; rfl
end Go.Proofs.YtgggihpbhmbjaaaGreatDoor
