/- filediff.Apply: what changes make of a revision. No condition. -/
import Derived.Test.YtgggihpbhmbjaaaGreatDoorFdCy6
import Derived.Test.YtgggihpbhmbjaaaGreatDoorRuny6
namespace Go.Proofs.YtgggihpbhmbjaaaGreatDoor
open Go Go.Dc Go.Sort Go.Proofs
def qGn (c : Chg) : Bool :=
 if c.1 = 1 ∨ c.1 = 3 then decide (c.2.2.1 = qEj) else if c.1 = 2 then decide (c.2.2.1 = qEj) && decide (c.2.2.2 = qEj) else if c.1 = 4 then decide (c.2.2.2 = qEj) else false
def qFp (c : Chg) : Option ByteArray := if c.1 = 4 then some c.2.2.1 else if c.1 = 1 then none else some c.2.1
def putB (c : Chg) : Bool := decide (c.1 ≠ 2)
def qCm (l : List Chg) : List ByteArray := l.filterMap qFp
def qGd (l : List Chg) : List ByteArray := (l.filter putB).map fun c => c.2.1
def contP (a : List File) (c : Chg) : ByteArray := if c.1 = 4 then (fget a c.2.2.1).getD qEj else c.2.2.2
def leftL (a : List File) (T : List ByteArray) : List File := a.filter fun f => !inB T f.1
def qLn (a L : List File) (l : List Chg) : List File := l.foldl (fun L c => if putB c = true then fput L c.2.1 (contP a c) else L) L
def qKe (a : List File) (l : List Chg) : List File := qLn a (leftL a (qCm l)) l
def existsB (a : List File) (l : List Chg) : Bool := l.any fun c => putB c && (fget a c.2.1).isSome && !inB (qCm l) c.2.1
def distB (l : List Chg) : Bool := decide ((qCm l).Nodup ∧ (qGd l).Nodup)
def unknB (a : List File) (l : List Chg) : Bool := (qCm l).any fun p => (fget a p).isNone
def qKc (a : List File) (l : List Chg) : List File × Int :=
 if qGf a ≠ 0 ∨ (l.all qGn) = false then ([], 1) else if distB l = false then ([], 10) else if unknB a l = true then ([], 18) else if existsB a l = true then ([], 19) else if qGf (qKe a l) = 0 then (qKe a l, 0) else ([], 1)
theorem formed_eq {N : Nat} (c : Chg) : qHq N c = some (qGn c) := by
 obtain ⟨k, p, q, b⟩ := c
 have be : ∀ x : ByteArray, (x.toList == (⟨#[]⟩ : ByteArray).toList) = decide (x = qEj) := fun x => eqB x qEj
 simp only [qHq, qGn, be]
 by_cases h1 : k = 1
 ·subst h1; rfl
 by_cases h3 : k = 3
 ·subst h3; rfl
 by_cases h2 : k = 2
 ·subst h2; by_cases g : q = qEj <;> simp [g]
 by_cases h4 : k = 4
 ·subst h4; rfl
 simp [h1, h2, h3, h4]
theorem taken_eq {N : Nat} (c : Chg) : qHz N c = some (match qFp c with | some p => (p, true) | none => (qEj, false)) := by
 unfold qHz qFp
 by_cases h4 : c.1 = 4
 ·simp [h4]
 ·by_cases h1 : c.1 = 1
  ·simp [h1]; rfl
  ·simp [h4, h1]
theorem put_eqB {N : Nat} (c : Chg) : qHr N c = some (putB c) := by
 unfold qHr putB
 congr 1
 rw [Bool.eq_iff_iff]; simp
theorem formed_loop {N : Nat} {l : List Chg} (hl : l.length < 1000000) : ∀ (d i Mf : Nat), i + d = l.length → d < Mf →
  ∃ o, qBf (qGh N l) Mf (i : Int) = some o ∧ if (l.drop i).all qGn = true then o = .inl () else ∃ k : Int, o = .inr k ∧ 0 ≤ k
 | _, _, 0, _, h => absurd h (Nat.not_lt_zero _)
 | d, i, Mf + 1, h1, h2 => by
  simp only [qBf, qGh]
  cases d with
  | zero =>
   have hc : ¬ ((i : Int) < (l.length : Int)) := by omega
   simp only [hc, decide_false, Bool.false_eq_true, if_false, Option.bind_some]
   rw [List.drop_of_length_le (by omega)]
   exact ⟨_, rfl, by simp⟩
  | succ d =>
   have hi : i < l.length := by omega
   have hc : ((i : Int) < (l.length : Int)) := by omega
   have w2 : IntKind.wrap .i64 ((i : Int) + 1) = ((i + 1 : Nat) : Int) := by rw [wi64 (by omega) (by omega)]; omega
   have hf := formed_eq (N := N) l[i]
   simp only [hc, decide_true, if_true, qCe hi, Option.bind_some, qIy]
   rw [show qHq N (l[i].1, l[i].2.1, l[i].2.2.1, l[i].2.2.2) = _ from hf, drop_cons' hi, List.all_cons]
   simp only [Option.bind_some]
   cases hb : qGn l[i] with
   | true =>
    simp only [Bool.not_true, Bool.false_eq_true, if_false, Option.bind_some, w2, Bool.true_and]
    exact formed_loop hl d (i + 1) Mf (by omega) (by omega)
   | false =>
    simp only [Bool.not_false, if_true, Option.bind_some, Bool.false_and, Bool.false_eq_true, if_false]
    exact ⟨_, rfl, _, rfl, by omega⟩
abbrev Fm := List (ByteArray × ByteArray)
def Rf (M : Fm) (g : ByteArray → Option ByteArray) : Prop := (M.map (·.1)).Nodup ∧ ∀ q, mget M q = g q
theorem Rf.set {M : Fm} {g : ByteArray → Option ByteArray} (h : Rf M g) (p b : ByteArray) : Rf (mset M p b) (fun q => if q = p then some b else g q) :=
 ⟨qLp h.1 _ _, fun q => by rw [qMn h.1, h.2]⟩
theorem Rf.congr {M : Fm} {g k : ByteArray → Option ByteArray} (h : Rf M g) (e : ∀ q, g q = k q) : Rf M k := ⟨h.1, fun q => by rw [h.2, e]⟩
theorem files_loop {N : Nat} {a : List File} (hl : a.length < 1000000) (ha : Asc a) : ∀ (d i Mf : Nat) (M : Fm), i + d = a.length → d < Mf → Rf M (fget (a.take i)) → ∃ M', qBf (qGi N a) Mf ((i : Int), some M) = some (some M') ∧ Rf M' (fget a)
 | _, _, 0, _, _, h, _ => absurd h (Nat.not_lt_zero _)
 | d, i, Mf + 1, M, h1, h2, h3 => by
  simp only [qBf, qGi]
  cases d with
  | zero =>
   have hc : ¬ ((i : Int) < (a.length : Int)) := by omega
   simp only [hc, decide_false, Bool.false_eq_true, if_false, Option.bind_some]
   rw [List.take_of_length_le (by omega)] at h3
   exact ⟨M, rfl, h3⟩
  | succ d =>
   have hi : i < a.length := by omega
   have hc : ((i : Int) < (a.length : Int)) := by omega
   have w2 : IntKind.wrap .i64 ((i : Int) + 1) = ((i + 1 : Nat) : Int) := by rw [wi64 (by omega) (by omega)]; omega
   simp only [hc, decide_true, if_true, qCe hi, Option.bind_some, qIo, Option.map_some, w2]
   refine files_loop hl ha d (i + 1) Mf _ (by omega) (by omega) ((h3.set a[i].1 a[i].2).congr fun q => ?_)
   have hasc : Asc (a.take (i + 1)) := List.Pairwise.sublist (List.take_sublist _ _) ha
   rw [take_snoc hi] at hasc ⊢
   have hm : a[i] ∈ a.take i ++ [a[i]] := List.mem_append_right _ (List.mem_singleton_self _)
   by_cases hq : q = a[i].1
   ·rw [if_pos hq, hq, qIg hasc hm]
   ·rw [if_neg hq]
    have : ∀ L : List File, fget (L ++ [a[i]]) q = fget L q := by
     intro L
     induction L with
     | nil => simp [fget]; intro e; exact absurd e.symm hq
     | cons f L ih =>
      simp only [List.cons_append, fget]
      split
      ·rfl
      ·exact ih
    rw [this]
abbrev Bm := List (ByteArray × Bool)
def Rb (M : Bm) (ps : List ByteArray) : Prop := (M.map (·.1)).Nodup ∧ (∀ kv ∈ M, kv.2 = true) ∧ ∀ q, (mget M q).isSome = inB ps q
theorem Rb.get {M : Bm} {ps : List ByteArray} (h : Rb M ps) (q : ByteArray) : (mget M q).getD false = inB ps q := by
 rw [← h.2.2 q]
 cases hm : mget M q with
 | none => rfl
 | some v =>
  have := h.2.1 _ ((qJo h.1).1 hm)
  simp only at this
  simp [this]
theorem mset_all {M : Bm} (h1 : (M.map (·.1)).Nodup) (h : ∀ kv ∈ M, kv.2 = true) (p : ByteArray) : ∀ kv ∈ mset M p true, kv.2 = true := by
 intro kv hkv
 have hn := qLp h1 p true
 have hg := (qJo (l := mset M p true) hn (k := kv.1) (v := kv.2)).2 hkv
 rw [qMn h1] at hg
 by_cases e : kv.1 = p
 ·rw [if_pos e] at hg; simpa using hg.symm
 ·rw [if_neg e] at hg; exact h _ ((qJo h1).1 hg)
theorem inB_app (ps : List ByteArray) (p q : ByteArray) : inB (ps ++ [p]) q = (inB ps q || decide (p = q)) := by
 unfold inB; rw [List.any_append]; simp
theorem Rb.set {M : Bm} {ps : List ByteArray} (h : Rb M ps) (p : ByteArray) : Rb (mset M p true) (ps ++ [p]) := by
 refine ⟨qLp h.1 _ _, mset_all h.1 h.2.1 p, fun q => ?_⟩
 rw [qMn h.1, inB_app]
 by_cases e : q = p
 ·rw [if_pos e, e]; simp
 ·rw [if_neg e, h.2.2]
  have : ¬ p = q := fun e2 => e e2.symm
  simp [this]
theorem nodup_snoc {ps : List ByteArray} {p : ByteArray} : (ps ++ [p]).Nodup ↔ ps.Nodup ∧ inB ps p = false := by
 rw [List.nodup_append]
 constructor
 ·rintro ⟨h1, _, h2⟩
  refine ⟨h1, ?_⟩
  rw [← Bool.not_eq_true, inB_iff]
  exact fun h => h2 p h p (by simp) rfl
 ·rintro ⟨h1, h2⟩
  rw [← Bool.not_eq_true, inB_iff] at h2
  refine ⟨h1, by simp, ?_⟩
  intro x hx y hy e
  simp at hy
  subst hy; subst e
  exact h2 hx
theorem takes_snoc (l : List Chg) (c : Chg) : qCm (l ++ [c]) = qCm l ++ (match qFp c with | some p => [p] | none => []) := by
 unfold qCm
 rw [List.filterMap_append]
 cases h : qFp c <;> simp [h]
theorem puts_snoc (l : List Chg) (c : Chg) : qGd (l ++ [c]) = qGd l ++ (if putB c = true then [c.2.1] else []) := by
 unfold qGd
 rw [List.filter_append, List.map_append]
 cases h : putB c <;> simp [h]
theorem qNd (l : List Chg) : distB l = (decide (qCm l).Nodup && decide (qGd l).Nodup) := by
 unfold distB; rw [Bool.eq_iff_iff]; simp
theorem qMk {N : Nat} {a : List File} {Ma : Fm} {l : List Chg} (hl : l.length < 1000000) (hMa : Rf Ma (fget a)) : ∀ (d i Mf : Nat) (tw un : Bool) (Mc Mg : Bm), i + d = l.length → d < Mf → tw = !(distB (l.take i)) → un = unknB a (l.take i) → Rb Mc (qGd (l.take i)) → Rb Mg (qCm (l.take i)) →
  ∃ Mc' Mg', qBf (qGg N l (some Ma)) Mf (tw, un, (i : Int), some Mc, some Mg) = some (!(distB l), unknB a l, some Mc', some Mg') ∧ Rb Mc' (qGd l) ∧ Rb Mg' (qCm l)
 | _, _, 0, _, _, _, _, _, h, _, _, _, _ => absurd h (Nat.not_lt_zero _)
 | d, i, Mf + 1, tw, un, Mc, Mg, h1, h2, h3, h4, h5, h6 => by
  simp only [qBf, qGg]
  cases d with
  | zero =>
   have hc : ¬ ((i : Int) < (l.length : Int)) := by omega
   simp only [hc, decide_false, Bool.false_eq_true, if_false, Option.bind_some]
   rw [List.take_of_length_le (by omega)] at h3 h4 h5 h6
   exact ⟨Mc, Mg, by rw [h3, h4], h5, h6⟩
  | succ d =>
   have hi : i < l.length := by omega
   have hc : ((i : Int) < (l.length : Int)) := by omega
   have w2 : IntKind.wrap .i64 ((i : Int) + 1) = ((i + 1 : Nat) : Int) := by rw [wi64 (by omega) (by omega)]; omega
   have ht := take_snoc hi
   have hte := taken_eq (N := N) l[i]
   have hpe := put_eqB (N := N) l[i]
   simp only [hc, decide_true, if_true, qCe hi, Option.bind_some]
   rw [show qHz N (l[i].1, l[i].2.1, l[i].2.2.1, l[i].2.2.2) = _ from hte, show qHr N (l[i].1, l[i].2.1, l[i].2.2.1, l[i].2.2.2) = _ from hpe]
   have hts := takes_snoc (l.take i) l[i]
   have hps := puts_snoc (l.take i) l[i]
   rw [← ht] at hts hps
   have hd := qNd (l.take (i + 1))
   have hd0 := qNd (l.take i)
   have hun : unknB a (l.take (i + 1)) = (unknB a (l.take i) || (match qFp l[i] with | some p => (fget a p).isNone | none => false)) := by
    unfold unknB; rw [hts, List.any_append]
    cases qFp l[i] <;> simp
   cases hp : qFp l[i] with
   | none =>
    rw [hp] at hts hun
    simp only [List.append_nil] at hts
    simp only [Bool.or_false] at hun
    simp only [Option.bind_some, Bool.false_eq_true, if_false]
    cases hb : putB l[i] with
    | false =>
     rw [hb] at hps
     simp only [Bool.false_eq_true, if_false, List.append_nil] at hps
     simp only [Bool.false_eq_true, if_false, Option.bind_some, w2]
     exact qMk hl hMa d (i + 1) Mf tw un Mc Mg (by omega) (by omega) (by rw [h3, hd, hd0, hts, hps]) (by rw [h4, hun]) (by rw [hps]; exact h5) (by rw [hts]; exact h6)
    | true =>
     rw [hb] at hps
     simp only [if_true] at hps
     simp only [if_true, qDj, qIo, Option.bind_some, Option.map_some, h5.get]
     have e : (if tw = true then some true else some (inB (qGd (l.take i)) l[i].2.1)) = some (tw || inB (qGd (l.take i)) l[i].2.1) := by cases tw <;> simp
     rw [e]
     simp only [Option.bind_some, w2]
     refine qMk hl hMa d (i + 1) Mf _ un _ Mg (by omega) (by omega) ?_ (by rw [h4, hun]) (by rw [hps]; exact h5.set _) (by rw [hts]; exact h6)
     rw [h3, hd, hd0, hts, hps]
     have hn : decide (qGd (l.take i) ++ [l[i].2.1]).Nodup = (decide (qGd (l.take i)).Nodup && !inB (qGd (l.take i)) l[i].2.1) := by rw [Bool.eq_iff_iff]; simp [nodup_snoc]
     rw [hn]
     cases decide (qCm (l.take i)).Nodup <;> cases decide (qGd (l.take i)).Nodup <;> cases inB (qGd (l.take i)) l[i].2.1 <;> rfl
   | some p =>
    rw [hp] at hts hun
    simp only at hts hun
    have hn1 : decide (qCm (l.take i) ++ [p]).Nodup = (decide (qCm (l.take i)).Nodup && !inB (qCm (l.take i)) p) := by rw [Bool.eq_iff_iff]; simp [nodup_snoc]
    simp only [Option.bind_some, if_true, qDj, qIo, Option.map_some, h6.get, hMa.2]
    have e : (if tw = true then if un = true then some (true, true) else some (true, !(fget a p).isSome) else if un = true then some (inB (qCm (l.take i)) p, true) else some (inB (qCm (l.take i)) p, !(fget a p).isSome)) = some ((tw || inB (qCm (l.take i)) p), (un || (fget a p).isNone)) := by
     cases tw <;> cases un <;> cases fget a p <;> simp
    rw [e]
    simp only [Option.bind_some]
    cases hb : putB l[i] with
    | false =>
     rw [hb] at hps
     simp only [Bool.false_eq_true, if_false, List.append_nil] at hps
     simp only [Bool.false_eq_true, if_false, Option.bind_some, w2]
     refine qMk hl hMa d (i + 1) Mf _ _ Mc _ (by omega) (by omega) ?_ (by rw [h4, hun]) (by rw [hps]; exact h5) (by rw [hts]; exact h6.set _)
     rw [h3, hd, hd0, hts, hps, hn1]
     cases decide (qCm (l.take i)).Nodup <;> cases decide (qGd (l.take i)).Nodup <;> cases inB (qCm (l.take i)) p <;> rfl
    | true =>
     rw [hb] at hps
     simp only [if_true] at hps
     simp only [if_true, h5.get]
     have e2 : ∀ x : Bool, (if x = true then some true else some (inB (qGd (l.take i)) l[i].2.1)) = some (x || inB (qGd (l.take i)) l[i].2.1) := fun x => by cases x <;> simp
     rw [e2]
     simp only [Option.bind_some, w2]
     refine qMk hl hMa d (i + 1) Mf _ _ _ _ (by omega) (by omega) ?_ (by rw [h4, hun]) (by rw [hps]; exact h5.set _) (by rw [hts]; exact h6.set _)
     rw [h3, hd, hd0, hts, hps, hn1]
     have hn : decide (qGd (l.take i) ++ [l[i].2.1]).Nodup = (decide (qGd (l.take i)).Nodup && !inB (qGd (l.take i)) l[i].2.1) := by rw [Bool.eq_iff_iff]; simp [nodup_snoc]
     rw [hn]
     cases decide (qCm (l.take i)).Nodup <;> cases decide (qGd (l.take i)).Nodup <;> cases inB (qCm (l.take i)) p <;> cases inB (qGd (l.take i)) l[i].2.1 <;> rfl
end Go.Proofs.YtgggihpbhmbjaaaGreatDoor
