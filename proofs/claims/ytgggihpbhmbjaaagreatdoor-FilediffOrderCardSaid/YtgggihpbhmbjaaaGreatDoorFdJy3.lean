/- FilediffApplies: what changes make of a revision, and how they are undone. What is read of the arguments is small. -/
import Derived.Test.YtgggihpbhmbjaaaGreatDoorFdHy3
namespace Go.Proofs.YtgggihpbhmbjaaaGreatDoor
open Go Go.Dc Go.Sort Go.Proofs
def SmallC (x : List Chg) : Prop := ∀ c ∈ x, c.2.1.size ≤ 1048576
def SmallF (x : List File) : Prop := ∀ f ∈ x, f.1.size ≤ 1048576
theorem MadeE.small {K : Nat} {L : List File} (h : MadeE K L) : SmallF L := fun f hf => by have := path_small' (h.2 f hf).1; omega
theorem diffL_small {a b : List File} (ha : SmallF a) (hb : SmallF b) : SmallC (diffL a b) := by
 have hp : ∀ {L : List File}, SmallF L → ∀ p ∈ L.map (·.1), p.size ≤ 1048576 := fun h p hp => by
  obtain ⟨f, hf, rfl⟩ := List.mem_map.1 hp; exact h f hf
 intro c hc
 unfold diffL at hc
 rcases List.mem_append.1 hc with hc | hc
 ·rcases List.mem_append.1 hc with hc | hc
  ·have h1 : c.2.1 ∈ (a.filterMap (chgF b)).map fun x => x.2.1 := List.mem_map_of_mem (f := fun x : Chg => x.2.1) hc
   rw [chgF_paths] at h1
   exact hp ha _ ((List.filter_sublist.map _).subset h1)
  ·have h1 : c.2.1 ∈ (addsF a b (goneL b a)).1.map fun x => x.2.1 := List.mem_map_of_mem (f := fun x : Chg => x.2.1) hc
   rw [addsF_paths] at h1
   exact hp hb _ ((List.filter_sublist.map _).subset h1)
 ·obtain ⟨g, hg, rfl⟩ := List.mem_map.1 hc
  exact ha g (List.mem_filter.1 ((addsF_sub a b _).subset hg)).1
theorem diffP_small {a b : List File} (ha : SmallF a) (hb : SmallF b) : SmallC (diffP a b).1 := by
 unfold diffP
 split
 ·intro c hc; exact diffL_small ha hb c (sortC_mem.1 hc)
 ·intro c hc; cases hc
theorem putAll_paths (a : List File) : ∀ (l : List Chg) (L : List File), SmallC l → SmallF L → SmallF (putAllL a L l)
 | [], L, _, h => h
 | c :: l, L, hl, h => by
  rw [putAll_snocE]
  have hl' : SmallC l := fun x hx => hl x (List.mem_cons_of_mem _ hx)
  split
  ·refine putAll_paths a l _ hl' fun f hf => ?_
   rcases fput_mem hf with rfl | hf
   ·exact hl c (List.mem_cons_self ..)
   ·exact h f hf
  ·exact putAll_paths a l _ hl' h
theorem apply_small {a : List File} {l : List Chg} (ha : SmallF a) (hl : SmallC l) : SmallF (applyL a l) := putAll_paths a l _ hl fun f hf => ha f (List.mem_filter.1 hf).1
theorem applyP_len (a : List File) (l : List Chg) : (applyP a l).1.length ≤ a.length + l.length := by
 have := apply_len a l
 unfold applyP
 repeat' split
 all_goals first | exact Nat.zero_le _ | exact this
theorem set_small {x : List Chg} (h : SmallC x) {c : Chg} (hc : c ∈ x) (i : Nat) : SmallC (x.set i c) := fun z hz => by
 rcases List.mem_or_eq_of_mem_set hz with hz | rfl
 ·exact h z hz
 ·exact h z hc
theorem changes_ok {N : Nat} {l : List Int} {a : Int} {A B : List File} (hN : 3000 < N) (h0 : 0 ≤ a) (h1 : a ≤ 100000000) (hA : SmallF A) (hB : SmallF B) : Ok (testgatelaw15_changes N (l, a) A B) fun y => ∃ a' x, y = ((l, a'), x) ∧ a ≤ a' ∧ a' ≤ a + 100 ∧ x.length ≤ 202 ∧ SmallC x := by
 unfold testgatelaw15_changes
 rw [refDiff_eq (by omega)]
 have hdl := diffP_len A B
 have hds := diffP_small hA hB
 simp only [Option.bind_some]
 rw [appM_some (by omega) (by omega)]
 refine Ok.someb (Ok.next h0 (by omega) (by decide) (by decide) fun r r0 r1 => ?_)
 dsimp only
 refine Ok.loop (fun st => ∃ (n : Nat) (x : List Chg) (a' : Int), st = (x, (n : Int), l, a') ∧ n ≤ 2 ∧ x.length + n ≤ 202 ∧ SmallC x ∧ a ≤ a' ∧ a' + 4 * n ≤ a + 20) (fun st => st.2.1.toNat) (fun b => ∃ x a', b = (x, l, a') ∧ x.length ≤ 202 ∧ SmallC x ∧ a ≤ a' ∧ a' ≤ a + 20) ?_ ⟨r.toNat, _, a + 1, by rw [Int.toNat_of_nonneg r0], by omega, by omega, hds, by omega, by omega⟩ (by dsimp only; omega) ?_
 ·rintro _ ⟨n, x, a', rfl, k1, k2, k3, k4, k5⟩
  unfold testgatelaw15_changes_L1
  dsimp only
  by_cases hn : 0 < n
  ·rw [if_pos (by simpa using hn)]
   have w : IntKind.wrap .i64 ((n : Int) - 1) = ((n - 1 : Nat) : Int) := by rw [wi64 (by omega) (by omega)]; omega
   refine Ok.pickS (by omega) (by omega) (by decide) fun z z0 z1 => ?_
   dsimp only
   refine Ok.oneS (by omega) (by omega) (by decide) fun p hp => ?_
   dsimp only
   refine Ok.oneS (by omega) (by omega) (by decide) fun q hq => ?_
   dsimp only
   refine Ok.oneS (by omega) (by omega) (by decide) fun b hb => ?_
   dsimp only
   refine Ok.app (by simp only [List.length_cons, List.length_nil]; omega) (by decide) (Ok.mk ?_)
   refine ⟨⟨n - 1, _, _, by rw [w], by omega, by simp only [List.length_append, List.length_cons, List.length_nil]; omega, fun c hc => ?_, by omega, by omega⟩, by rw [w]; simp only [Int.toNat_natCast]; omega⟩
   rcases List.mem_append.1 hc with hc | hc
   ·exact k3 c hc
   ·simp only [List.mem_cons, List.not_mem_nil, or_false] at hc
    subst hc
    show p.size ≤ 1048576
    omega
  ·rw [if_neg (by simpa using hn)]
   exact Ok.mk ⟨x, a', rfl, by omega, k3, k4, by omega⟩
 ·rintro _ ⟨x, a2, rfl, w1, w2, w3, w4⟩
  dsimp only
  refine Ok.iteb (fun hc => ?_) fun hc => ?_
  ·have hc := of_decide_eq_true hc
   refine Ok.assoc (Ok.next (by omega) (by omega) (by omega) (by omega) fun i i0 i1 => ?_)
   dsimp only
   refine Ok.assoc (Ok.next (by omega) (by omega) (by omega) (by omega) fun k k0 k1 => ?_)
   dsimp only
   have hi : i.toNat < x.length := by omega
   have hk : k.toNat < x.length := by omega
   have hk2 : k.toNat < (x.set i.toNat x[k.toNat]).length := by rw [List.length_set]; exact hk
   rw [idx_some k0 hk, idx_some i0 hi]
   simp only [Option.bind_some]
   rw [idx_some k0 hk2]
   simp only [Option.bind_some]
   have s1 : SmallC (x.set i.toNat x[k.toNat]) := set_small w2 (List.getElem_mem hk) _
   refine Ok.mk ⟨_, _, rfl, by omega, by omega, by simp only [List.length_set]; exact w1, fun c hc => ?_⟩
   rcases List.mem_or_eq_of_mem_set hc with hc | rfl
   ·exact s1 c hc
   ·exact w2 _ (List.getElem_mem hi)
  ·exact Ok.someb (Ok.mk ⟨a2, x, rfl, by omega, by omega, w1, w2⟩)
end Go.Proofs.YtgggihpbhmbjaaaGreatDoor
