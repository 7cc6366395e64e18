/- filediff.Diff: the list of all changes. No condition. -/
import Derived.Test.YtgggihpbhmbjaaaGreatDoorFdAy6
namespace Go.Proofs.YtgggihpbhmbjaaaGreatDoor
open Go Go.Dc Go.Sort Go.Proofs
section
variable {κ ν : Type} [DecidableEq κ]
theorem mget_mset0 : ∀ (l : List (κ × ν)) (k : κ) (v : ν) (c : κ), mget (qMb l k v) c = if c = k then some v else mget l c
 | [], k, v, c => by simp [qMb, mget]
 | p :: l, k, v, c => by
  simp only [qMb]
  by_cases h : k = p.1
  ·rw [if_pos h]
   simp only [mget]
   by_cases h2 : c = k
   ·rw [if_pos h2, if_pos h2]
   ·rw [if_neg h2, if_neg h2, if_neg (by rw [← h]; exact h2)]
  ·rw [if_neg h]
   simp only [mget]
   rw [mget_mset0 l k v c]
   by_cases h2 : c = p.1
   ·rw [if_pos h2, if_neg (fun e => h (by rw [← e, h2])), if_pos h2]
   ·rw [if_neg h2, if_neg h2]
theorem qMn [KOrd κ] {l : List (κ × ν)} (hn : (l.map (·.1)).Nodup) (k : κ) (v : ν) (c : κ) : mget (mset l k v) c = if c = k then some v else mget l c := by
 rw [← mget_perm (qKo (.refl l) hn k v) (qIi hn k v) c, mget_mset0]
theorem qLp [KOrd κ] {l : List (κ × ν)} (hn : (l.map (·.1)).Nodup) (k : κ) (v : ν) : ((mset l k v).map (·.1)).Nodup :=
 ((qKo (.refl l) hn k v).map _).nodup_iff.1 (qIi hn k v)
theorem mget_mdel : ∀ (l : List (κ × ν)) (k c : κ), mget (mdel l k) c = if c = k then none else mget l c
 | [], k, c => by simp [mdel, mget]
 | p :: l, k, c => by
  have ih := mget_mdel l k c
  unfold mdel at *
  rw [List.filter_cons]
  by_cases h : p.1 = k
  ·simp only [h, decide_true, Bool.not_true, Bool.false_eq_true, if_false, ih, mget]
   by_cases h2 : c = k <;> simp [h2]
  ·simp only [h, decide_false, Bool.not_false, if_true, mget, ih]
   by_cases h2 : c = p.1
   ·rw [if_pos h2, if_pos h2, if_neg (fun e => h (by rw [← e, h2]))]
   ·rw [if_neg h2, if_neg h2]
theorem mdel_nodup' {l : List (κ × ν)} (hn : (l.map (·.1)).Nodup) (k : κ) : ((mdel l k).map (·.1)).Nodup := hn.sublist (List.filter_sublist.map _)
end
abbrev Mp := List (ByteArray × List ByteArray)
def ofB (B : ByteArray) (U : List File) : List ByteArray := (U.filter fun g => decide (g.2 = B)).map (·.1)
def Rp (M : Mp) (U : List File) : Prop := (M.map (·.1)).Nodup ∧ ∀ B, (mget M B).getD [] = ofB B U
theorem ofB_le (B : ByteArray) (U : List File) : (ofB B U).length ≤ U.length := by simp only [ofB, List.length_map]; exact List.length_filter_le _ _
theorem Rp.add {M : Mp} {U : List File} (h : Rp M U) (f : File) : Rp (mset M f.2 ((mget M f.2).getD [] ++ [f.1])) (U ++ [f]) := by
 refine ⟨qLp h.1 _ _, fun B => ?_⟩
 rw [qMn h.1]
 by_cases hB : B = f.2
 ·subst hB
  rw [if_pos rfl, h.2]
  simp [ofB]
 ·rw [if_neg hB, h.2]
  have : ¬ f.2 = B := fun e => hB e.symm
  simp [ofB, this]
def takeB (U : List File) (B : ByteArray) : List File := U.eraseP fun g => decide (g.2 = B)
theorem ofB_take : ∀ (U : List File) (B C : ByteArray), ofB C (takeB U B) = if C = B then (ofB B U).tail else ofB C U
 | [], B, C => by simp [ofB, takeB]
 | g :: U, B, C => by
  have ih := ofB_take U B C
  unfold ofB takeB at *
  by_cases h : g.2 = B
  ·rw [List.eraseP_cons_of_pos (by simpa using h)]
   by_cases h2 : C = B
   ·rw [if_pos h2, h2]; simp [h]
   ·rw [if_neg h2]
    have : ¬ g.2 = C := fun e => h2 (by rw [← e, h])
    simp [this]
  ·rw [List.eraseP_cons_of_neg (by simpa using h)]
   by_cases h2 : C = B
   ·rw [if_pos h2] at ih ⊢
    subst h2
    simp only [List.filter_cons, h, decide_false, Bool.false_eq_true, if_false]
    exact ih
   ·rw [if_neg h2] at ih ⊢
    simp only [List.filter_cons]
    split
    ·simp only [List.map_cons]; rw [ih]
    ·exact ih
theorem Rp.take {M : Mp} {U : List File} (h : Rp M U) (B : ByteArray) : Rp (mset M B (ofB B U).tail) (takeB U B) := by
 refine ⟨qLp h.1 _ _, fun C => ?_⟩
 rw [qMn h.1, ofB_take]
 by_cases hC : C = B
 ·rw [if_pos hC, if_pos hC]; rfl
 ·rw [if_neg hC, if_neg hC, h.2]
theorem Rp.del {M : Mp} {U : List File} (h : Rp M U) {B : ByteArray} (hB : ofB B U = []) : Rp (mdel M B) U := by
 refine ⟨mdel_nodup' h.1 _, fun C => ?_⟩
 rw [mget_mdel]
 by_cases hC : C = B
 ·rw [if_pos hC, hC, hB]; rfl
 ·rw [if_neg hC, h.2]
def rmC (p : ByteArray) : Chg := (2, p, qEj, qEj)
theorem filter_or {α : Type} {p q : α → Bool} (hpq : ∀ x, p x = true → q x = false) : ∀ U : List α, (U.filter fun x => p x || q x).Perm (U.filter p ++ U.filter q)
 | [] => .refl _
 | x :: U => by
  have ih := filter_or hpq U
  cases hp : p x with
  | true =>
   have hq := hpq x hp
   simp only [List.filter_cons, hp, hq, Bool.or_false, if_true, Bool.false_eq_true, if_false, List.cons_append]
   exact List.Perm.cons _ ih
  | false =>
   cases hq : q x with
   | true =>
    simp only [List.filter_cons, hp, hq, Bool.or_true, if_true, Bool.false_eq_true, if_false]
    exact (List.Perm.cons _ ih).trans List.perm_middle.symm
   | false => simp only [List.filter_cons, hp, hq, Bool.or_self, Bool.false_eq_true, if_false]; exact ih
def inB (ks : List ByteArray) (B : ByteArray) : Bool := ks.any fun k => decide (k = B)
theorem inB_iff {ks : List ByteArray} {B : ByteArray} : inB ks B = true ↔ B ∈ ks := by
 unfold inB
 rw [List.any_eq_true]
 constructor
 ·rintro ⟨k, hk, e⟩; rw [← of_decide_eq_true e]; exact hk
 ·intro h; exact ⟨B, h, by simp⟩
theorem flat_perm (U : List File) : ∀ {ks : List ByteArray}, ks.Nodup → (ks.flatMap fun B => ofB B U).Perm ((U.filter fun g => inB ks g.2).map (·.1))
 | [], _ => by simp [inB]
 | B :: ks, h => by
  obtain ⟨h1, h2⟩ := List.nodup_cons.1 h
  have ih := flat_perm U h2
  rw [List.flatMap_cons]
  have e : (U.filter fun g => inB (B :: ks) g.2) = U.filter fun g => decide (g.2 = B) || inB ks g.2 := by
   refine List.filter_congr fun g _ => ?_
   rw [Bool.eq_iff_iff, Bool.or_eq_true, inB_iff, inB_iff, decide_eq_true_eq, List.mem_cons]
  rw [e]
  have hp := (filter_or (p := fun g : File => decide (g.2 = B)) (q := fun g => inB ks g.2) (fun g hg => by
   have hg := of_decide_eq_true hg
   rw [← Bool.not_eq_true, inB_iff, hg]; exact h1) U).map (·.1)
  rw [List.map_append] at hp
  exact (ih.append_left _).trans hp.symm
theorem Rp.flat {M k : Mp} {U : List File} (h : Rp M U) (hk : k.Perm M) : (k.flatMap fun kv => kv.2.map rmC).Perm (U.map fun g => rmC g.1) := by
 have hn : (k.map (·.1)).Nodup := (hk.map _).nodup_iff.2 h.1
 have h1 : (k.flatMap fun kv => kv.2) = (k.map (·.1)).flatMap fun B => ofB B U := by
  rw [List.flatMap_map]
  have : ∀ kv ∈ k, kv.2 = ofB kv.1 U := fun kv hkv => by
   have hm := (qJo (l := M) h.1).2 (hk.mem_iff.1 hkv : (kv.1, kv.2) ∈ M)
   have := h.2 kv.1
   rw [hm] at this; exact this
  clear hn hk
  induction k with
  | nil => rfl
  | cons a k ih => rw [List.flatMap_cons, List.flatMap_cons, this a (List.mem_cons_self ..), ih fun kv hkv => this kv (List.mem_cons_of_mem _ hkv)]
 have h2 := flat_perm U hn
 have h3 : (U.filter fun g => inB (k.map (·.1)) g.2) = U := List.filter_eq_self.2 fun g hg => by
  rw [inB_iff]
  have h4 := h.2 g.2
  have h5 : g.1 ∈ ofB g.2 U := List.mem_map_of_mem (List.mem_filter.2 ⟨hg, by simp⟩)
  rw [← h4] at h5
  cases hm : mget M g.2 with
  | none => rw [hm] at h5; simp at h5
  | some l =>
   have := (qJo h.1).1 hm
   exact (hk.map _).mem_iff.2 (List.mem_map_of_mem (f := (·.1)) this)
 rw [h3, ← h1] at h2
 have h6 : (k.flatMap fun kv => kv.2.map rmC) = (k.flatMap fun kv => kv.2).map rmC := by rw [List.map_flatMap]
 rw [h6]
 have := h2.map rmC
 rw [List.map_map] at this
 exact this
def chgF (b : List File) (f : File) : Option Chg := match fget b f.1 with
 | some y => if y = f.2 then none else some (3, f.1, qEj, y)
 | none => none
def qEw (b L : List File) : List File := L.filter fun f => (fget b f.1).isNone
theorem goneL_le (b L : List File) : (qEw b L).length ≤ L.length := List.length_filter_le _ _
theorem chg_le (b L : List File) : (L.filterMap (chgF b)).length ≤ L.length := List.length_filterMap_le _ _
theorem find_wf {N : Nat} {L : List File} (p : ByteArray) (hw : WF L) (hP : qJv N L) (hN : 100 < N) : qHu N L p = some (findR (fget L p)) := by
 rw [Find_eq p hP hN, findP, if_pos (qHp.2 hw)]
theorem reffind_wf {N : Nat} {L : List File} (p : ByteArray) (hw : WF L) (hN : 100 < N) : qCr N L p = some (findR (fget L p)) := by
 rw [refFind_eq p hN, findP, if_pos (qHp.2 hw)]
theorem loop1 {N : Nat} {a b : List File} (hb : WF b) (ha : a.length ≤ 64) (hP : qJv N b) (hN : 100 < N) : ∀ (d i Mf : Nat) (M : Mp), i + d = a.length → d < Mf → Rp M (qEw b (a.take i)) →
  ∃ M', qBf (qGw N a b) Mf ((a.take i).filterMap (chgF b), (i : Int), some M) = some (a.filterMap (chgF b), some M') ∧ Rp M' (qEw b a)
 | _, _, 0, _, _, h, _ => absurd h (Nat.not_lt_zero _)
 | d, i, Mf + 1, M, h1, h2, h3 => by
  simp only [qBf, qGw]
  cases d with
  | zero =>
   have hc : ¬ ((i : Int) < (a.length : Int)) := by omega
   simp only [hc, decide_false, Bool.false_eq_true, if_false, Option.bind_some]
   rw [List.take_of_length_le (by omega)] at h3 ⊢
   exact ⟨M, rfl, h3⟩
  | succ d =>
   have hi : i < a.length := by omega
   have hc : ((i : Int) < (a.length : Int)) := by omega
   have w2 : IntKind.wrap .i64 ((i : Int) + 1) = ((i + 1 : Nat) : Int) := by rw [wi64 (by omega) (by omega)]; omega
   have ht : a.take (i + 1) = a.take i ++ [a[i]] := List.take_succ_eq_append_getElem hi
   have hl1 := chg_le b (a.take i)
   have hl2 := goneL_le b (a.take i)
   have hl3 : (a.take i).length ≤ 64 := by simp only [List.length_take]; omega
   simp only [hc, decide_true, if_true, qCe hi, Option.bind_some]
   rw [find_wf _ hb hP hN]
   cases hg : fget b a[i].1 with
   | none =>
    simp only [findR, Option.bind_some, Bool.not_false, if_true, qDj, qIo, Option.map_some]
    rw [qCn (by have := ofB_le a[i].2 (qEw b (a.take i)); rw [← h3.2] at this; simp only [List.length_cons, List.length_nil]; omega) (by decide)]
    simp only [Option.bind_some, w2]
    have hr := h3.add a[i]
    have e1 : qEw b (a.take (i + 1)) = qEw b (a.take i) ++ [a[i]] := by
     unfold qEw; rw [ht, List.filter_append]; simp [hg]
    have e2 : (a.take (i + 1)).filterMap (chgF b) = (a.take i).filterMap (chgF b) := by
     rw [ht, List.filterMap_append]; simp [chgF, hg]
    rw [← e1] at hr
    have := loop1 hb ha hP hN d (i + 1) Mf _ (by omega) (by omega) hr
    rw [e2] at this
    exact this
   | some y =>
    have e1 : qEw b (a.take (i + 1)) = qEw b (a.take i) := by
     unfold qEw; rw [ht, List.filter_append]; simp [hg]
    simp only [findR, Option.bind_some, Bool.not_true, Bool.false_eq_true, if_false, eqB]
    by_cases hy : y = a[i].2
    ·have e2 : (a.take (i + 1)).filterMap (chgF b) = (a.take i).filterMap (chgF b) := by
      rw [ht, List.filterMap_append]; simp [chgF, hg, hy]
     simp only [hy, decide_true, Bool.not_true, Bool.false_eq_true, if_false, Option.bind_some, w2]
     have := loop1 hb ha hP hN d (i + 1) Mf M (by omega) (by omega) (by rw [e1]; exact h3)
     rw [e2] at this
     exact this
    ·have e2 : (a.take (i + 1)).filterMap (chgF b) = (a.take i).filterMap (chgF b) ++ [(3, a[i].1, qEj, y)] := by
      rw [ht, List.filterMap_append]; simp [chgF, hg, hy]
     simp only [hy, decide_false, Bool.not_false, if_true]
     rw [qCn (by simp only [List.length_cons, List.length_nil]; omega) (by decide)]
     simp only [Option.bind_some, w2]
     have := loop1 hb ha hP hN d (i + 1) Mf M (by omega) (by omega) (by rw [e1]; exact h3)
     rw [e2] at this
     exact this
def qIu (U : List File) (f : File) : Chg × List File := match ofB f.2 U with
 | [] => ((1, f.1, qEj, f.2), U)
 | p :: _ => ((4, f.1, p, qEj), takeB U f.2)
def qKs (a : List File) : List File → List File → List Chg × List File
 | [], U => ([], U)
 | f :: b, U => if (fget a f.1).isSome = true then qKs a b U else ((qIu U f).1 :: (qKs a b (qIu U f).2).1, (qKs a b (qIu U f).2).2)
theorem addsF_len (a : List File) : ∀ (b U : List File), (qKs a b U).1.length ≤ b.length
 | [], _ => Nat.le_refl _
 | f :: b, U => by
  simp only [qKs]
  split
  ·have := addsF_len a b U; simp only [List.length_cons]; omega
  ·have := addsF_len a b (qIu U f).2; simp only [List.length_cons]; omega
theorem loop2 {N : Nat} {a b : List File} (ha : WF a) (hb : b.length ≤ 64) (hP : qJv N a) (hN : 100 < N) : ∀ (d i Mf : Nat) (M : Mp) (out : List Chg) (U : List File), i + d = b.length → d < Mf → out.length ≤ 64 + i → U.length ≤ 64 → Rp M U →
  ∃ M', qBf (qGv N a b) Mf (out, (i : Int), some M) = some (out ++ (qKs a (b.drop i) U).1, some M') ∧ Rp M' (qKs a (b.drop i) U).2
 | _, _, 0, _, _, _, _, h, _, _, _ => absurd h (Nat.not_lt_zero _)
 | d, i, Mf + 1, M, out, U, h1, h2, h3, h4, h5 => by
  simp only [qBf, qGv]
  cases d with
  | zero =>
   have hc : ¬ ((i : Int) < (b.length : Int)) := by omega
   simp only [hc, decide_false, Bool.false_eq_true, if_false, Option.bind_some]
   rw [List.drop_of_length_le (by omega)]
   exact ⟨M, by simp [qKs], h5⟩
  | succ d =>
   have hi : i < b.length := by omega
   have hc : ((i : Int) < (b.length : Int)) := by omega
   have w2 : IntKind.wrap .i64 ((i : Int) + 1) = ((i + 1 : Nat) : Int) := by rw [wi64 (by omega) (by omega)]; omega
   have hdrop : b.drop i = b[i] :: b.drop (i + 1) := (List.getElem_cons_drop hi).symm
   simp only [hc, decide_true, if_true, qCe hi, Option.bind_some]
   rw [find_wf _ ha hP hN, hdrop]
   cases hg : fget a b[i].1 with
   | some y =>
    simp only [findR, Option.bind_some, if_true, qKs, hg, Option.isSome_some, w2]
    exact loop2 ha hb hP hN d (i + 1) Mf M out U (by omega) (by omega) (by omega) h4 h5
   | none =>
    simp only [findR, Option.bind_some, Bool.false_eq_true, if_false, qKs, hg, Option.isSome_none, qDj, h5.2]
    cases hl : ofB b[i].2 U with
    | nil =>
     have em : qIu U b[i] = ((1, b[i].1, qEj, b[i].2), U) := by unfold qIu; rw [hl]
     have hc0 : (((([] : List ByteArray).length : Int)) == 0) = true := rfl
     simp only [hc0, if_true]
     rw [qCn (by simp only [List.length_cons, List.length_nil]; omega) (by decide)]
     simp only [Option.bind_some, w2, em]
     obtain ⟨M', g1, g2⟩ := loop2 ha hb hP hN d (i + 1) Mf M (out ++ [(1, b[i].1, qEj, b[i].2)]) U (by omega) (by omega) (by simp only [List.length_append, List.length_cons, List.length_nil]; omega) h4 h5
     refine ⟨M', ?_, g2⟩
     rw [List.append_assoc] at g1
     exact g1
    | cons p l =>
     have em : qIu U b[i] = ((4, b[i].1, p, qEj), takeB U b[i].2) := by unfold qIu; rw [hl]
     have hll : (p :: l).length ≤ 64 := by have := ofB_le b[i].2 U; rw [hl] at this; omega
     have hc0 : ((((p :: l).length : Int)) == 0) = false := by rw [beq_eq_false_iff_ne]; simp only [List.length_cons]; omega
     have hx : idx (p :: l) 0 = some p := rfl
     have hs : subS (p :: l) 1 ((p :: l).length : Int) = some l := by
      rw [subS_some (by decide) (by simp only [List.length_cons]; omega) (Int.le_refl _)]
      simp
     simp only [hc0, Bool.false_eq_true, if_false, hx, Option.bind_some]
     rw [qCn (by simp only [List.length_cons, List.length_nil]; omega) (by decide)]
     have hrt := h5.take b[i].2
     rw [hl] at hrt
     simp only [Option.bind_some, hs, qIo, Option.map_some, em]
     have hul : (takeB U b[i].2).length ≤ 64 := Nat.le_trans (List.length_eraseP_le ..) h4
     by_cases h1l : l = []
     ·subst h1l
      have hc1 : (((([p] : List ByteArray).length : Int)) == 1) = true := rfl
      simp only [hc1, if_true, Option.bind_some, w2, mdelQ, Option.map_some]
      have hrd := hrt.del (B := b[i].2) (by rw [ofB_take, if_pos rfl, hl]; rfl)
      obtain ⟨M', g1, g2⟩ := loop2 ha hb hP hN d (i + 1) Mf _ (out ++ [(4, b[i].1, p, qEj)]) _ (by omega) (by omega) (by simp only [List.length_append, List.length_cons, List.length_nil]; omega) hul hrd
      refine ⟨M', ?_, g2⟩
      rw [List.append_assoc] at g1
      exact g1
     ·have hc1 : ((((p :: l).length : Int)) == 1) = false := by
       rw [beq_eq_false_iff_ne]
       have := List.length_pos_iff.2 h1l
       simp only [List.length_cons]; omega
      simp only [hc1, Bool.false_eq_true, if_false, Option.bind_some, w2]
      obtain ⟨M', g1, g2⟩ := loop2 ha hb hP hN d (i + 1) Mf _ (out ++ [(4, b[i].1, p, qEj)]) _ (by omega) (by omega) (by simp only [List.length_append, List.length_cons, List.length_nil]; omega) hul hrt
      refine ⟨M', ?_, g2⟩
      rw [List.append_assoc] at g1
      exact g1
theorem loop4 {N : Nat} {kv : ByteArray × List ByteArray} : ∀ (d i Mf : Nat) (out : List Chg), i + d = kv.2.length → d < Mf → out.length + d ≤ 1000 → kv.2.length ≤ 1000 →
  qBf (qGy N kv) Mf (out, (i : Int)) = some (out ++ (kv.2.drop i).map rmC)
 | _, _, 0, _, _, h, _, _ => absurd h (Nat.not_lt_zero _)
 | d, i, Mf + 1, out, h1, h2, h3, h4 => by
  simp only [qBf, qGy]
  cases d with
  | zero =>
   have hc : ¬ ((i : Int) < (kv.2.length : Int)) := by omega
   simp only [hc, decide_false, Bool.false_eq_true, if_false, Option.bind_some]
   rw [List.drop_of_length_le (by omega)]; simp
  | succ d =>
   have hi : i < kv.2.length := by omega
   have hc : ((i : Int) < (kv.2.length : Int)) := by omega
   have w2 : IntKind.wrap .i64 ((i : Int) + 1) = ((i + 1 : Nat) : Int) := by rw [wi64 (by omega) (by omega)]; omega
   have hdrop : kv.2.drop i = kv.2[i] :: kv.2.drop (i + 1) := (List.getElem_cons_drop hi).symm
   simp only [hc, decide_true, if_true, qCe hi, Option.bind_some]
   rw [qCn (by simp only [List.length_cons, List.length_nil]; omega) (by decide)]
   simp only [Option.bind_some, w2]
   have := loop4 (N := N) (kv := kv) d (i + 1) Mf (out ++ [rmC kv.2[i]]) (by omega) (by omega) (by simp only [List.length_append, List.length_cons, List.length_nil]; omega) h4
   rw [hdrop, List.map_cons]
   rw [List.append_assoc] at this
   exact this
theorem loop3 {N : Nat} (hN : 1001 < N) : ∀ (k : Mp) (out : List Chg), out.length + (k.flatMap fun kv => kv.2.map rmC).length ≤ 1000 → qIf (qFx N) k out = some (out ++ k.flatMap fun kv => kv.2.map rmC)
 | [], out, _ => by simp [qIf, qFx]
 | kv :: k, out, h => by
  rw [List.flatMap_cons, List.length_append, List.length_map] at h
  have h4 := loop4 (N := N) (kv := kv) kv.2.length 0 N out (by omega) (by omega) (by omega) (by omega)
  have h4' : qBf (qGy N kv) N (out, 0) = some (out ++ kv.2.map rmC) := h4
  simp only [qIf, qFx, h4', Option.bind_some]
  rw [loop3 hN k _ (by simp only [List.length_append, List.length_map]; omega), List.append_assoc, List.flatMap_cons]
def diffL (a b : List File) : List Chg := a.filterMap (chgF b) ++ (qKs a b (qEw b a)).1 ++ (qKs a b (qEw b a)).2.map fun g => rmC g.1
theorem takeB_sub (U : List File) (B : ByteArray) : (takeB U B).Sublist U := List.eraseP_sublist
theorem qMm (a : List File) : ∀ (b U : List File), (qKs a b U).2.Sublist U
 | [], _ => .refl _
 | f :: b, U => by
  simp only [qKs]
  split
  ·exact qMm a b U
  ·refine (qMm a b _).trans ?_
   unfold qIu
   split
   ·exact .refl _
   ·exact takeB_sub U f.2
theorem qNc (a : List File) : ∀ (b U : List File), (qKs a b U).1.map (fun x => x.2.1) = (b.filter fun f => (fget a f.1).isNone).map (·.1)
 | [], _ => rfl
 | f :: b, U => by
  simp only [qKs, List.filter_cons]
  cases hg : fget a f.1 with
  | some y => simp only [Option.isSome_some, if_true, Option.isNone_some, Bool.false_eq_true, if_false]; exact qNc a b U
  | none =>
   simp only [Option.isSome_none, Bool.false_eq_true, if_false, Option.isNone_none, if_true, List.map_cons]
   rw [qNc a b _]
   congr 1
   unfold qIu
   split <;> rfl
theorem chgF_paths (b : List File) : ∀ a : List File, (a.filterMap (chgF b)).map (fun x => x.2.1) = (a.filter fun f => (chgF b f).isSome).map (·.1)
 | [] => rfl
 | f :: a => by
  have ih := chgF_paths b a
  rw [List.filterMap_cons, List.filter_cons]
  cases hc : chgF b f with
  | none => simp only [Option.isSome_none, Bool.false_eq_true, if_false]; exact ih
  | some c =>
   simp only [Option.isSome_some, if_true, List.map_cons, ih]
   congr 1
   unfold chgF at hc
   split at hc
   ·split at hc
    ·cases hc
    ·simp only [Option.some.injEq] at hc; subst hc; rfl
   ·cases hc
theorem qMj {L : List File} (h : Asc L) : (L.map (·.1)).Nodup := List.pairwise_map.2 (h.imp fun h => blt_ne h)
theorem fget_in {L : List File} (ha : Asc L) {p : ByteArray} (h : p ∈ L.map (·.1)) : (fget L p).isSome = true := by
 obtain ⟨f, hf, rfl⟩ := List.mem_map.1 h
 rw [qIg ha hf]; rfl
theorem diffL_dist {a b : List File} (ha : Asc a) (hb : Asc b) : PDist (diffL a b) := by
 unfold PDist diffL
 rw [List.map_append, List.map_append, chgF_paths, qNc, List.map_map]
 have e3 : ((fun x : Chg => x.2.1) ∘ fun g : File => rmC g.1) = fun g : File => g.1 := rfl
 rw [e3]
 have s3 : ((qKs a b (qEw b a)).2.map fun g => g.1).Sublist ((qEw b a).map fun g => g.1) := (qMm a b _).map _
 have n1 : ((a.filter fun f => (chgF b f).isSome).map (·.1)).Nodup := (qMj ha).sublist (List.filter_sublist.map _)
 have n2 : ((b.filter fun f => (fget a f.1).isNone).map (·.1)).Nodup := (qMj hb).sublist (List.filter_sublist.map _)
 have n3 : ((qEw b a).map fun g => g.1).Nodup := (qMj ha).sublist (List.filter_sublist.map _)
 rw [List.nodup_append, List.nodup_append]
 refine ⟨⟨n1, n2, ?_⟩, n3.sublist s3, ?_⟩
 ·intro p hp q hq e
  subst e
  obtain ⟨f, hf, rfl⟩ := List.mem_map.1 hp
  obtain ⟨g, hg, e⟩ := List.mem_map.1 hq
  have h1 := (List.mem_filter.1 hf).1
  have h2 := (List.mem_filter.1 hg).2
  rw [e, qIg ha h1] at h2
  simp at h2
 ·intro p hp q hq e
  subst e
  obtain ⟨g, hg, e⟩ := List.mem_map.1 (s3.subset hq)
  have h2 := (List.mem_filter.1 hg).2
  have h1 := (List.mem_filter.1 hg).1
  subst e
  rcases List.mem_append.1 hp with hp | hp
  ·obtain ⟨f, hf, e⟩ := List.mem_map.1 hp
   have h3 := (List.mem_filter.1 hf).2
   unfold chgF at h3
   rw [e] at h3
   cases hb2 : fget b g.1 with
   | none => rw [hb2] at h3; simp at h3
   | some y => rw [hb2] at h2; simp at h2
  ·obtain ⟨f, hf, e⟩ := List.mem_map.1 hp
   have h3 := (List.mem_filter.1 hf).1
   have h4 := qIg hb h3
   rw [e] at h4
   rw [h4] at h2
   simp at h2
def diffP (a b : List File) : List Chg × Int := if qGf a = 0 ∧ qGf b = 0 then (sortC (diffL a b), 0) else ([], 1)
theorem diffL_len {a b : List File} (ha : a.length ≤ 64) (hb : b.length ≤ 64) : (diffL a b).length ≤ 200 := by
 have h1 := chg_le b a
 have h2 := addsF_len a b (qEw b a)
 have h3 := (qMm a b (qEw b a)).length_le
 have h4 := goneL_le b a
 simp only [diffL, List.length_append, List.length_map]; omega
theorem Diff_eq {N : Nat} {a b : List File} (hPa : qJv N a) (hPb : qJv N b) (hN : 2000 < N) : qHi N a b = some (diffP a b) := by
 unfold qHi diffP
 rw [Check_eq hPa (by omega)]
 by_cases h1 : qGf a = 0
 ·rw [Check_eq hPb (by omega)]
  by_cases h2 : qGf b = 0
  ·have wa := qHp.1 h1
   have wb := qHp.1 h2
   simp only [h1, h2, bne_self_eq_false, Bool.false_eq_true, if_false, Option.bind_some, and_self, if_true]
   obtain ⟨M1, g1, g2⟩ := loop1 (N := N) (a := a) wb wa.1 hPb (by omega) a.length 0 N [] (by omega) (by have := wa.1; omega) ⟨by simp, fun B => rfl⟩
   have g1' : qBf (qGw N a b) N (([] : List Chg), 0, (some [] : Option Mp)) = some (a.filterMap (chgF b), some M1) := g1
   have hU : (qEw b a).length ≤ 64 := Nat.le_trans (goneL_le b a) wa.1
   have hc := chg_le b a
   obtain ⟨M2, g3, g4⟩ := loop2 (N := N) (b := b) wa wb.1 hPa (by omega) b.length 0 N M1 (a.filterMap (chgF b)) (qEw b a) (by omega) (by have := wb.1; omega) (by have := wa.1; omega) hU g2
   rw [List.drop_zero] at g3 g4
   have g3' : qBf (qGv N a b) N (a.filterMap (chgF b), 0, some M1) = some (a.filterMap (chgF b) ++ (qKs a b (qEw b a)).1, some M2) := g3
   rw [g1']
   simp only [Option.bind_some]
   rw [g3']
   simp only [Option.bind_some, Option.getD_some]
   have hlen := diffL_len wa.1 wb.1
   refine mrangeK_of fun k hk => ?_
   have hp := g4.flat hk
   have hpl := hp.length_eq
   simp only [diffL, List.length_append, List.length_map] at hlen hpl
   rw [loop3 (by omega) k _ (by simp only [List.length_append]; omega)]
   simp only [Option.bind_some]
   have hperm : (a.filterMap (chgF b) ++ (qKs a b (qEw b a)).1 ++ k.flatMap fun kv => kv.2.map rmC).Perm (diffL a b) := hp.append_left _
   rw [sort_eq (by omega) (by have := hperm.length_eq; have := diffL_len wa.1 wb.1; omega) hperm (diffL_dist wa.2.1 wb.2.1)]
   rfl
  ·simp only [h1, h2, bne_self_eq_false, Bool.false_eq_true, if_false, Option.bind_some, and_false]
   have : (qGf b != 0) = true := by simpa using h2
   simp only [this, if_true]
 ·have : (qGf a != 0) = true := by simpa using h1
  simp only [this, if_true, Option.bind_some, h1, false_and, if_false]
end Go.Proofs.YtgggihpbhmbjaaaGreatDoor
