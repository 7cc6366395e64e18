/- FilediffApplies: what changes make of a revision, and how they are undone. What is read of the arguments is small. -/
import Derived.Test.YtgggihpbhmbjaaaGreatDoorFdHy6
namespace Go.Proofs.YtgggihpbhmbjaaaGreatDoor
open Go Go.Dc Go.Sort Go.Proofs
def qLz (x : List Chg) : Prop := ∀ c ∈ x, c.2.1.size ≤ 1048576
def qLv (x : List File) : Prop := ∀ f ∈ x, f.1.size ≤ 1048576
theorem MadeE.small {K : Nat} {L : List File} (h : MadeE K L) : qLv L := fun f hf => by have := path_small' (h.2 f hf).1; omega
theorem diffL_small {a b : List File} (ha : qLv a) (hb : qLv b) : qLz (diffL a b) := by
 have hp : ∀ {L : List File}, qLv L → ∀ p ∈ L.map (·.1), p.size ≤ 1048576 := fun h p hp => by
  obtain ⟨f, hf, rfl⟩ := List.mem_map.1 hp; exact h f hf
 intro c hc
 unfold diffL at hc
 rcases List.mem_append.1 hc with hc | hc
 ·rcases List.mem_append.1 hc with hc | hc
  ·have h1 : c.2.1 ∈ (a.filterMap (chgF b)).map fun x => x.2.1 := List.mem_map_of_mem (f := fun x : Chg => x.2.1) hc
   rw [chgF_paths] at h1
   exact hp ha _ ((List.filter_sublist.map _).subset h1)
  ·have h1 : c.2.1 ∈ (qKs a b (qEw b a)).1.map fun x => x.2.1 := List.mem_map_of_mem (f := fun x : Chg => x.2.1) hc
   rw [qNc] at h1
   exact hp hb _ ((List.filter_sublist.map _).subset h1)
 ·obtain ⟨g, hg, rfl⟩ := List.mem_map.1 hc
  exact ha g (List.mem_filter.1 ((qMm a b _).subset hg)).1
theorem diffP_small {a b : List File} (ha : qLv a) (hb : qLv b) : qLz (diffP a b).1 := by
 unfold diffP
 split
 ·intro c hc; exact diffL_small ha hb c (sortC_mem.1 hc)
 ·intro c hc; cases hc
theorem putAll_paths (a : List File) : ∀ (l : List Chg) (L : List File), qLz l → qLv L → qLv (qLn a L l)
 | [], L, _, h => h
 | c :: l, L, hl, h => by
  rw [qJl]
  have hl' : qLz l := fun x hx => hl x (List.mem_cons_of_mem _ hx)
  split
  ·refine putAll_paths a l _ hl' fun f hf => ?_
   rcases fput_mem hf with rfl | hf
   ·exact hl c (List.mem_cons_self ..)
   ·exact h f hf
  ·exact putAll_paths a l _ hl' h
theorem apply_small {a : List File} {l : List Chg} (ha : qLv a) (hl : qLz l) : qLv (qKe a l) := putAll_paths a l _ hl fun f hf => ha f (List.mem_filter.1 hf).1
theorem applyP_len (a : List File) (l : List Chg) : (qKc a l).1.length ≤ a.length + l.length := by
 have := apply_len a l
 unfold qKc
 repeat' split
 all_goals first | exact Nat.zero_le _ | exact this
theorem set_small {x : List Chg} (h : qLz x) {c : Chg} (hc : c ∈ x) (i : Nat) : qLz (x.set i c) := fun z hz => by
 rcases List.mem_or_eq_of_mem_set hz with hz | rfl
 ·exact h z hz
 ·exact h z hc
theorem changes_ok {N : Nat} {l : List Int} {a : Int} {A B : List File} (hN : 3000 < N) (h0 : 0 ≤ a) (h1 : a ≤ 100000000) (hA : qLv A) (hB : qLv B) : Ok (qEf N (l, a) A B) fun y => ∃ a' x, y = ((l, a'), x) ∧ a ≤ a' ∧ a' ≤ a + 100 ∧ x.length ≤ 202 ∧ qLz x := by
 unfold qEf
 rw [refDiff_eq (by omega)]
 have hdl := diffP_len A B
 have hds := diffP_small hA hB
 simp only [Option.bind_some]
 rw [appM_some (by omega) (by omega)]
 refine Ok.someb (Ok.next h0 (by omega) (by decide) (by decide) fun r r0 r1 => ?_)
 dsimp only
 refine Ok.loop (fun st => ∃ (n : Nat) (x : List Chg) (a' : Int), st = (x, (n : Int), l, a') ∧ n ≤ 2 ∧ x.length + n ≤ 202 ∧ qLz x ∧ a ≤ a' ∧ a' + 4 * n ≤ a + 20) (fun st => st.2.1.toNat) (fun b => ∃ x a', b = (x, l, a') ∧ x.length ≤ 202 ∧ qLz x ∧ a ≤ a' ∧ a' ≤ a + 20) ?_ ⟨r.toNat, _, a + 1, by rw [Int.toNat_of_nonneg r0], by omega, by omega, hds, by omega, by omega⟩ (by dsimp only; omega) ?_
 ·rintro _ ⟨n, x, a', rfl, k1, k2, k3, k4, k5⟩
  unfold qFq
  dsimp only
  by_cases hn : 0 < n
  ·rw [if_pos (by simpa using hn)]
   have w : IntKind.wrap .i64 ((n : Int) - 1) = ((n - 1 : Nat) : Int) := by rw [wi64 (by omega) (by omega)]; omega
   refine Ok.pickS (by omega) (by omega) (by decide) fun z z0 z1 => ?_
   dsimp only
   refine Ok.oneS (by omega) (by omega) (by decide) fun p hp => ?_
   dsimp only
   refine Ok.oneS (by omega) (by omega) (by decide) fun q hq => ?_
   dsimp only
   refine Ok.oneS (by omega) (by omega) (by decide) fun b hb => ?_
   dsimp only
   refine Ok.app (by simp only [List.length_cons, List.length_nil]; omega) (by decide) (Ok.mk ?_)
   refine ⟨⟨n - 1, _, _, by rw [w], by omega, by simp only [List.length_append, List.length_cons, List.length_nil]; omega, fun c hc => ?_, by omega, by omega⟩, by rw [w]; simp only [Int.toNat_natCast]; omega⟩
   rcases List.mem_append.1 hc with hc | hc
   ·exact k3 c hc
   ·simp only [List.mem_cons, List.not_mem_nil, or_false] at hc
    subst hc
    show p.size ≤ 1048576
    omega
  ·rw [if_neg (by simpa using hn)]
   exact Ok.mk ⟨x, a', rfl, by omega, k3, k4, by omega⟩
 ·rintro _ ⟨x, a2, rfl, w1, w2, w3, w4⟩
  dsimp only
  refine Ok.iteb (fun hc => ?_) fun hc => ?_
  ·have hc := of_decide_eq_true hc
   refine Ok.assoc (Ok.next (by omega) (by omega) (by omega) (by omega) fun i i0 i1 => ?_)
   dsimp only
   refine Ok.assoc (Ok.next (by omega) (by omega) (by omega) (by omega) fun k k0 k1 => ?_)
   dsimp only
   have hi : i.toNat < x.length := by omega
   have hk : k.toNat < x.length := by omega
   have hk2 : k.toNat < (x.set i.toNat x[k.toNat]).length := by rw [List.length_set]; exact hk
   rw [idx_some k0 hk, idx_some i0 hi]
   simp only [Option.bind_some]
   rw [idx_some k0 hk2]
   simp only [Option.bind_some]
   have s1 : qLz (x.set i.toNat x[k.toNat]) := set_small w2 (List.getElem_mem hk) _
   refine Ok.mk ⟨_, _, rfl, by omega, by omega, by simp only [List.length_set]; exact w1, fun c hc => ?_⟩
   rcases List.mem_or_eq_of_mem_set hc with hc | rfl
   ·exact s1 c hc
   ·exact w2 _ (List.getElem_mem hi)
  ·exact Ok.someb (Ok.mk ⟨a2, x, rfl, by omega, by omega, w1, w2⟩)
theorem applies_step {N : Nat} {a : List File} {x : List Chg} (ha : qLv a) (hal : a.length ≤ 1048576) (hx : qLz x) (hxl : x.length ≤ 1000) (hN : 3000000 < N) {β : Type} (k : Bool → Bool → Option β) :
  ((qEk N a x).bind fun y5 => (qDu N a x).bind fun y6 => (if (y5.2 != y6.2) = true then (some true) else ((qDp N y5.1 y6.1).bind fun y7 => some (!y7)) : Option (Bool)).bind fun o5 => if o5 = true then k true true else ((qEn N a x).bind fun y8 => (qEu N a x).bind fun y9 => (if (y8.2 != y9.2) = true then (some true) else ((qFu N y8.1 y9.1).bind fun y10 => some (!y10)) : Option (Bool)).bind fun o6 => k false o6)) = k false false := by
 have pa := qNh (N := N) ha hN
 have pf := qNh (N := N) (apply_small ha hx) hN
 have hl := applyP_len a x
 rw [Apply_eq (by omega) pa pf (by omega), refApply_eq (by omega) (by omega)]
 simp only [Option.bind_some, bne_self_eq_false, Bool.false_eq_true, if_false]
 rw [refSame_eq (by omega) (by omega)]
 simp only [decide_true, Option.bind_some, Bool.not_true, Bool.false_eq_true, if_false]
 rw [Invert_eq (by omega) pa pf (by omega), refInvert_eq (by omega) (by omega)]
 have hil : (invertP a x).1.length ≤ 200 := by
  unfold invertP
  split
  ·simp
  ·exact diffP_len _ _
 simp only [Option.bind_some, bne_self_eq_false, Bool.false_eq_true, if_false]
 rw [sameC_refl (by omega) (by omega)]
 rfl
theorem testgatelaw15_FilediffApplies_true (l : List Int) (_gl : l.length ≤ 1048576 ∧ ∀ x ∈ l, (Lit.int .i64 x).wf = true) (raw : List File) (graw : raw.length ≤ 1048576 ∧ ∀ f ∈ raw, f.1.size ≤ 1048576 ∧ f.2.size ≤ 1048576)
  (odd : List Chg) (godd : odd.length ≤ 1048576 ∧ ∀ c ∈ odd, (Lit.int .i64 c.1).wf = true ∧ c.2.1.size ≤ 1048576 ∧ c.2.2.1.size ≤ 1048576 ∧ c.2.2.2.size ≤ 1048576) : ∃ N, qCw N l raw odd = some true := by
 refine ⟨4000000, ?_⟩
 have key : Ok (qCw 4000000 l raw odd) fun b => b = true := by
  unfold qCw
  refine Ok.bind (two_ok (by decide)) ?_
  rintro _ ⟨a', A, B, rfl, u1, u2, u3, u4, u5, u6⟩
  dsimp only
  refine Ok.bind (P := fun o => o.length ≤ 6 ∧ qLz o) ?_ fun O hO => ?_
  ·refine Ok.ite (fun hc => ?_) fun hc => ?_
   ·have hc := of_decide_eq_true hc
    rw [subS_some (by decide) (by decide) (by omega)]
    refine Ok.mk ⟨by simp only [List.length_drop, List.length_take]; omega, fun c hc => (godd.2 c ?_).2.1⟩
    exact (List.take_sublist _ _).subset ((List.drop_sublist _ _).subset hc)
   ·have hc : ¬ (odd.length : Int) > 6 := fun h => hc (decide_eq_true h)
    exact Ok.mk ⟨by omega, fun c hc => (godd.2 c hc).2.1⟩
  ·refine Ok.bind (changes_ok (by decide) u1 (by omega) u3.small u4.small) ?_
   rintro _ ⟨a2, x2, rfl, v1, v2, v3, v4⟩
   dsimp only
   refine Ok.bind (changes_ok (by decide) (by omega) (by omega) u4.small u3.small) ?_
   rintro _ ⟨a3, x3, rfl, q1, q2, q3, q4⟩
   dsimp only
   generalize hX : [x2, x3, O] = X
   have hXl : X.length = 3 := by rw [← hX]; rfl
   have hXp : ∀ x ∈ X, x.length ≤ 1000 ∧ qLz x := by
    intro x hx
    rw [← hX] at hx
    simp only [List.mem_cons, List.not_mem_nil, or_false] at hx
    rcases hx with rfl | rfl | rfl
    ·exact ⟨by omega, v4⟩
    ·exact ⟨by omega, q4⟩
    ·exact ⟨by omega, hO.2⟩
   refine Ok.loop (fun s => ∃ (j : Nat) (a' : Int), s = ((j : Int), l, a') ∧ j ≤ 3 ∧ 0 ≤ a' ∧ a' ≤ 20000000 + j) (fun s => 3 - s.1.toNat) (fun b => ∃ z, b = .inl z) (fun s hs => ?_) ⟨0, a3, rfl, by decide, by omega, by omega⟩ (by dsimp only; decide) fun o ho => ?_
   ·obtain ⟨j, a4, rfl, hj, j1, j2⟩ := hs
    unfold qDi
    dsimp only
    rw [hX]
    refine Ok.ite (fun hc => ?_) fun hc => Ok.mk ⟨_, rfl⟩
    have hc := of_decide_eq_true hc
    have hjl : j < X.length := by omega
    rw [qCe hjl]
    simp only [Option.bind_some]
    have hp := hXp X[j] (List.getElem_mem hjl)
    refine Ok.bind (P := fun o : Bool × List Int × Int => ∃ b a5, o = (b, l, a5) ∧ 0 ≤ a5 ∧ a5 ≤ a4 + 1) ?_ ?_
    ·refine Ok.ite (fun _ => ?_) fun _ => Ok.mk ⟨_, _, rfl, j1, by omega⟩
     refine Ok.chance j1 (by omega) (by decide) (by decide) fun c => ?_
     exact Ok.mk ⟨_, _, rfl, by dsimp only; omega, by dsimp only; omega⟩
    ·rintro _ ⟨b, a5, rfl, b1, b2⟩
     dsimp only
     refine Ok.bind (P := fun L : List File => qLv L ∧ L.length ≤ 1048576) ?_ ?_
     ·refine Ok.ite (fun _ => Ok.mk ⟨fun f hf => (graw.2 f hf).1, graw.1⟩) fun _ => Ok.mk ⟨u3.small, by omega⟩
     ·rintro L ⟨hL, hLl⟩
      have hstep := applies_step (N := 4000000) (x := X[j]) hL hLl hp.2 hp.1 (by decide) (β := (Int × List Int × Int) ⊕ ((List Int × Int) ⊕ Bool)) (fun o5 o6 => if o6 = true then some (.inr (.inr false)) else some (.inl (IntKind.wrap .i64 ((j : Int) + 1), l, a5)))
      simp only [if_true, Bool.false_eq_true, if_false] at hstep
      rw [hstep, wi1 (show j < 1000000 by omega)]
      exact Ok.mk ⟨⟨j + 1, a5, rfl, by omega, b1, by omega⟩, by simp only [Int.toNat_natCast]; omega⟩
   ·obtain ⟨z, rfl⟩ := ho
    simp only
    rw [fd_awake (by decide)]
    exact Ok.mk rfl
 obtain ⟨b, h1, rfl⟩ := key
 exact h1
end Go.Proofs.YtgggihpbhmbjaaaGreatDoor
