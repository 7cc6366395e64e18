/- The reference's Apply is the program's. No condition. -/
import Derived.Test.YtgggihpbhmbjaaaGreatDoorFdEy6
namespace Go.Proofs.YtgggihpbhmbjaaaGreatDoor
open Go Go.Dc Go.Sort Go.Proofs
theorem well_eq {N : Nat} (c : Chg) : qHa N c = some (qGn c) := by
 have h := formed_eq (N := N) c
 exact h
theorem takes_eq {N : Nat} {c : Chg} (hf : qGn c = true) : qCp N c = some (match qFp c with | some p => (p, true) | none => (qEj, false)) := by
 have hk : c.1 = 1 ∨ c.1 = 2 ∨ c.1 = 3 ∨ c.1 = 4 := by
  unfold qGn at hf
  by_cases h1 : c.1 = 1 ∨ c.1 = 3
  ·omega
  ·rw [if_neg h1] at hf
   by_cases h2 : c.1 = 2
   ·omega
   ·rw [if_neg h2] at hf
    by_cases h4 : c.1 = 4
    ·omega
    ·rw [if_neg h4] at hf; cases hf
 unfold qCp qFp
 rcases hk with h | h | h | h <;> simp [h]
 rfl
theorem puts_eq {N : Nat} (c : Chg) : qCb N c = some (putB c) := put_eqB (N := N) c
def confB (x y : Chg) : Bool := (match qFp x, qFp y with | some p, some q => decide (p = q) | _, _ => false) || (putB x && putB y && decide (x.2.1 = y.2.1))
theorem conf_any (t : List Chg) (x : Chg) : t.any (confB x) = ((match qFp x with | some p => inB (qCm t) p | none => false) || (putB x && inB (qGd t) x.2.1)) := by
 induction t with
 | nil => cases qFp x <;> simp [qCm, qGd, inB]
 | cons y t ih =>
  have t1 : ∀ p, inB (qCm (y :: t)) p = ((match qFp y with | some q => decide (q = p) | none => false) || inB (qCm t) p) := fun p => by
   unfold qCm; rw [List.filterMap_cons]; cases qFp y <;> simp [inB]
  have t2 : ∀ p, inB (qGd (y :: t)) p = ((putB y && decide (y.2.1 = p)) || inB (qGd t) p) := fun p => by
   unfold qGd; rw [List.filter_cons]; cases putB y <;> simp [inB]
  have es : ∀ p q : ByteArray, decide (p = q) = decide (q = p) := fun p q => by rw [Bool.eq_iff_iff]; simp [eq_comm]
  rw [List.any_cons, ih]
  unfold confB
  simp only [t1, t2, es x.2.1 y.2.1]
  generalize inB (qGd t) x.2.1 = B
  generalize decide (y.2.1 = x.2.1) = C
  generalize putB x = X
  generalize putB y = Y
  cases qFp x with
  | none => cases qFp y <;> cases B <;> cases C <;> cases X <;> cases Y <;> rfl
  | some p =>
   simp only
   generalize inB (qCm t) p = A
   cases qFp y with
   | none => cases A <;> cases B <;> cases C <;> cases X <;> cases Y <;> rfl
   | some q =>
    simp only [es p q]
    generalize decide (q = p) = D
    cases A <;> cases B <;> cases C <;> cases D <;> cases X <;> cases Y <;> rfl
theorem dist_snoc (t : List Chg) (x : Chg) : distB (t ++ [x]) = (distB t && !(t.any (confB x))) := by
 rw [conf_any, qNd, qNd, takes_snoc, puts_snoc]
 have hn : ∀ (ps : List ByteArray) (p : ByteArray), decide (ps ++ [p]).Nodup = (decide ps.Nodup && !inB ps p) := fun ps p => by rw [Bool.eq_iff_iff]; simp [nodup_snoc]
 cases qFp x with
 | none =>
  simp only [List.append_nil, Bool.false_or]
  cases putB x with
  | false => simp
  | true =>
   simp only [if_true, hn, Bool.true_and]
   cases decide (qCm t).Nodup <;> cases decide (qGd t).Nodup <;> cases inB (qGd t) x.2.1 <;> rfl
 | some p =>
  simp only [hn]
  cases putB x with
  | false =>
   simp only [Bool.false_eq_true, if_false, List.append_nil, Bool.false_and, Bool.or_false]
   cases decide (qCm t).Nodup <;> cases decide (qGd t).Nodup <;> cases inB (qCm t) p <;> rfl
  | true =>
   simp only [if_true, hn, Bool.true_and]
   cases decide (qCm t).Nodup <;> cases decide (qGd t).Nodup <;> cases inB (qCm t) p <;> cases inB (qGd t) x.2.1 <;> rfl
theorem dist_more {t : List Chg} (h : distB t = false) (l : List Chg) : distB (t ++ l) = false := by
 have hs : ∀ {A B : List ByteArray}, (A ++ B).Nodup → A.Nodup := fun h => h.sublist (List.sublist_append_left _ _)
 have e1 : qCm (t ++ l) = qCm t ++ qCm l := by unfold qCm; rw [List.filterMap_append]
 have e2 : qGd (t ++ l) = qGd t ++ qGd l := by unfold qGd; rw [List.filter_append, List.map_append]
 unfold distB at *
 rw [decide_eq_false_iff_not] at *
 rw [e1, e2]
 exact fun g => h ⟨hs g.1, hs g.2⟩
abbrev Res := Unit ⊕ (List File × Int)
theorem twice_run : ∀ (l t : List Chg), distB t = true → run (fun t x => if t.any (confB x) = true then (.inr (.inr ([], 10)) : List Chg ⊕ Res) else .inl (t ++ [x])) (fun _ => .inl ()) l t = if distB (t ++ l) = true then .inl () else .inr ([], 10)
 | [], t, h => by simp [run, h]
 | x :: l, t, h => by
  have hd := dist_snoc t x
  rw [h, Bool.true_and] at hd
  simp only [run]
  cases hc : t.any (confB x) with
  | true =>
   rw [hc] at hd
   have := dist_more (t := t ++ [x]) hd l
   rw [List.append_assoc] at this
   simp only [if_true]
   rw [show t ++ x :: l = t ++ ([x] ++ l) from rfl, this]; rfl
  | false =>
   rw [hc] at hd
   simp only [Bool.false_eq_true, if_false]
   rw [twice_run l (t ++ [x]) hd, List.append_assoc]; rfl
theorem wi1 {i : Nat} (h : i < 1000000) : IntKind.wrap .i64 ((i : Int) + 1) = ((i + 1 : Nat) : Int) := by rw [wi64 (by omega) (by omega)]; omega
theorem inner_loop {N : Nat} {x : Chg} {t : List Chg} (hx : qGn x = true) (ht : ∀ y ∈ t, qGn y = true) (hl : t.length < 1000000) (hN : t.length < N) :
  qBf (qDc N x (match qFp x with | some p => (p, true) | none => (qEj, false)) t) N 0 = some (if t.any (confB x) = true then (.inr ([], 10) : Res) else .inl ()) := by
 have h := qIb (L := t) (fun (_ : Unit) i => (i : Int)) (f := qDc N x (match qFp x with | some p => (p, true) | none => (qEj, false)) t)
  (fun _ y => if confB x y = true then (.inr (.inr ([], 10)) : Unit ⊕ Res) else .inl ()) (fun _ => .inl ()) (fun _ _ => True) (fun u i hi _ => by
   have hc : ((i : Int) < (t.length : Int)) := by omega
   have hte := takes_eq (N := N) (ht t[i] (List.getElem_mem hi))
   simp only [qDc, hc, decide_true, if_true, qCe hi, Option.bind_some, wi1 (show i < 1000000 by omega)]
   rw [show qCp N (t[i].1, t[i].2.1, t[i].2.2.1, t[i].2.2.2) = _ from hte]
   have hp1 : qCb N (x.1, x.2.1, x.2.2.1, x.2.2.2) = some (putB x) := puts_eq x
   have hp2 : qCb N (t[i].1, t[i].2.1, t[i].2.2.1, t[i].2.2.2) = some (putB t[i]) := puts_eq t[i]
   simp only [Option.bind_some, hp1, hp2, eqB]
   unfold confB
   cases qFp x with
   | none => cases qFp t[i] <;> cases putB x <;> cases putB t[i] <;> by_cases h1 : x.2.1 = t[i].2.1 <;> simp [h1]
   | some p =>
    cases qFp t[i] with
    | none => cases putB x <;> cases putB t[i] <;> by_cases h1 : x.2.1 = t[i].2.1 <;> simp [h1]
    | some q => by_cases h0 : p = q <;> cases putB x <;> cases putB t[i] <;> by_cases h1 : x.2.1 = t[i].2.1 <;> simp [h0, h1]) (fun _ _ _ _ _ _ => trivial) (fun u _ => by
   have hc : ¬ ((t.length : Int) < (t.length : Int)) := by omega
   simp only [qDc, hc, decide_false, Bool.false_eq_true, if_false]) (t := ()) hN trivial
 rw [show ((0 : Nat) : Int) = 0 from rfl] at h
 rw [h]
 congr 1
 exact run_any (confB x) (fun y => rfl) t
theorem twice_loop {N : Nat} {l : List Chg} (hf : ∀ y ∈ l, qGn y = true) (hl : l.length < 1000000) (hN : l.length < N) : qBf (qDg N l) N 0 = some (if distB l = true then (.inl () : Res) else .inr ([], 10)) := by
 have h := qIb (L := l) (fun (_ : List Chg) i => (i : Int)) (f := qDg N l) (fun t x => if t.any (confB x) = true then (.inr (.inr ([], 10)) : List Chg ⊕ Res) else .inl (t ++ [x])) (fun _ => .inl ()) (fun i t => t = l.take i) (fun t i hi ht => by
   have hc : ((i : Int) < (l.length : Int)) := by omega
   have hx := hf l[i] (List.getElem_mem hi)
   have hte := takes_eq (N := N) hx
   simp only [qDg, hc, decide_true, if_true, qCe hi, Option.bind_some, wi1 (show i < 1000000 by omega)]
   rw [show qCp N (l[i].1, l[i].2.1, l[i].2.2.1, l[i].2.2.2) = _ from hte, subS_some (by decide) (by omega) (by omega)]
   have e : (l.take (Int.toNat (i : Int))).drop (Int.toNat 0) = t := by rw [ht]; simp
   simp only [Option.bind_some]
   rw [e]
   have hle : t.length ≤ i := by rw [ht]; simp only [List.length_take]; omega
   rw [inner_loop hx (fun y hy => hf y (by rw [ht] at hy; exact (List.take_sublist _ _).subset hy)) (by omega) (by omega)]
   cases t.any (confB l[i]) <;> rfl) (fun t i hi t' ht hs => by
   rw [take_snoc hi, ← ht]
   by_cases hc : t.any (confB l[i]) = true
   ·rw [if_pos hc] at hs; cases hs
   ·rw [if_neg hc] at hs; exact (Sum.inl.inj hs).symm) (fun t _ => by
   have hc : ¬ ((l.length : Int) < (l.length : Int)) := by omega
   simp only [qDg, hc, decide_false, Bool.false_eq_true, if_false]) (t := []) hN rfl
 rw [show ((0 : Nat) : Int) = 0 from rfl] at h
 rw [h, twice_run l [] rfl, List.nil_append]
theorem unk_run (a : List File) : ∀ (l : List Chg) (t : List ByteArray), run (fun t x => match qFp x with | none => (.inl t : List ByteArray ⊕ (List ByteArray ⊕ (List File × Int))) | some p => if (fget a p).isNone = true then .inr (.inr ([], 18)) else .inl (t ++ [p])) (fun t => .inl t) l t =
  if unknB a l = true then .inr ([], 18) else .inl (t ++ qCm l)
 | [], t => by simp [run, unknB, qCm]
 | x :: l, t => by
  have e1 : qCm (x :: l) = (match qFp x with | some q => [q] | none => []) ++ qCm l := by
   unfold qCm; rw [List.filterMap_cons]; cases qFp x <;> rfl
  have e2 : unknB a (x :: l) = ((match qFp x with | some q => (fget a q).isNone | none => false) || unknB a l) := by
   unfold unknB; rw [e1, List.any_append]; cases qFp x <;> simp
  simp only [run]
  rw [e1, e2]
  cases qFp x with
  | none => simp only [Bool.false_or, List.nil_append]; exact unk_run a l t
  | some p =>
   simp only
   cases hn : (fget a p).isNone with
   | true => simp
   | false =>
    simp only [Bool.false_eq_true, if_false, Bool.false_or]
    rw [unk_run a l (t ++ [p]), List.append_assoc]
theorem unk_loop {N : Nat} {a : List File} {l : List Chg} (ha : WF a) (hf : ∀ y ∈ l, qGn y = true) (hl : l.length < 1000000) (hN : l.length < N) (hN2 : 100 < N) :
  qBf (qDb N a l) N ([], 0) = some (if unknB a l = true then .inr ([], 18) else .inl (qCm l)) := by
 have h := qIb (L := l) (fun (t : List ByteArray) i => (t, (i : Int))) (f := qDb N a l) (fun t x => match qFp x with | none => (.inl t : List ByteArray ⊕ (List ByteArray ⊕ (List File × Int))) | some p => if (fget a p).isNone = true then .inr (.inr ([], 18)) else .inl (t ++ [p])) (fun t => .inl t) (fun i t => t.length ≤ i) (fun t i hi ht => by
   have hc : ((i : Int) < (l.length : Int)) := by omega
   have hte := takes_eq (N := N) (hf l[i] (List.getElem_mem hi))
   simp only [qDb, hc, decide_true, if_true, qCe hi, Option.bind_some, wi1 (show i < 1000000 by omega)]
   rw [show qCp N (l[i].1, l[i].2.1, l[i].2.2.1, l[i].2.2.2) = _ from hte]
   cases qFp l[i] with
   | none => simp only [Option.bind_some, Bool.not_false, if_true]
   | some p =>
    simp only [Option.bind_some, Bool.not_true, Bool.false_eq_true, if_false]
    rw [reffind_wf _ ha hN2]
    cases fget a p with
    | none => simp only [findR, Option.bind_some, Bool.not_false, if_true, Option.isNone_none]
    | some y =>
     simp only [findR, Option.bind_some, Bool.not_true, Bool.false_eq_true, if_false, Option.isNone_some]
     rw [qCn (by simp only [List.length_cons, List.length_nil]; omega) (by decide)]
     rfl) (fun t i hi t' ht hs => by
   cases hp : qFp l[i] with
   | none => rw [hp] at hs; simp only [Sum.inl.injEq] at hs; subst hs; omega
   | some p =>
    rw [hp] at hs
    simp only at hs
    split at hs
    ·cases hs
    ·simp only [Sum.inl.injEq] at hs; subst hs; simp only [List.length_append, List.length_cons, List.length_nil]; omega) (fun t _ => by
   have hc : ¬ ((l.length : Int) < (l.length : Int)) := by omega
   simp only [qDb, hc, decide_false, Bool.false_eq_true, if_false]) (t := []) hN (Nat.zero_le _)
 rw [show ((0 : Nat) : Int) = 0 from rfl] at h
 rw [h, unk_run a l [], List.nil_append]
theorem left1_loop {N : Nat} {T : List ByteArray} {f : File} (hl : T.length < 1000000) (hN : T.length < N) : qBf (qCx N T f) N (true, 0) = some (!inB T f.1) := by
 have h := qIb (L := T) (fun (t : Bool) i => (t, (i : Int))) (f := qCx N T f) (fun t x => (.inl (t && !decide (x = f.1)) : Bool ⊕ Bool)) (fun t => t) (fun _ _ => True) (fun t i hi _ => by
   have hc : ((i : Int) < (T.length : Int)) := by omega
   simp only [qCx, hc, decide_true, if_true, qCe hi, Option.bind_some, wi1 (show i < 1000000 by omega), eqB]
   cases t <;> rfl) (fun _ _ _ _ _ _ => trivial) (fun t _ => by
   have hc : ¬ ((T.length : Int) < (T.length : Int)) := by omega
   simp only [qCx, hc, decide_false, Bool.false_eq_true, if_false]) (t := true) hN trivial
 rw [show ((0 : Nat) : Int) = 0 from rfl] at h
 rw [h, run_fold (fun t x => t && !decide (x = f.1)) (fun t x => rfl)]
 congr 1
 have : ∀ (T : List ByteArray) (t : Bool), T.foldl (fun t x => t && !decide (x = f.1)) t = (t && !inB T f.1) := by
  intro T
  induction T with
  | nil => intro t; simp [inB]
  | cons x T ih => intro t; rw [List.foldl_cons, ih]; simp only [inB, List.any_cons]; cases t <;> cases decide (x = f.1) <;> simp
 rw [this]; rfl
theorem left_loop {N : Nat} {a : List File} {T : List ByteArray} (hT : T.length < 1000000) (hNT : T.length < N) (hl : a.length < 1000000) (hN : a.length < N) : qBf (qDa N a T) N (0, []) = some (leftL a T) := by
 have h := qIb (L := a) (fun (t : List File) i => ((i : Int), t)) (f := qDa N a T) (fun t f => (.inl (if (!inB T f.1) = true then t ++ [f] else t) : List File ⊕ List File)) (fun t => t) (fun i t => t.length ≤ i) (fun t i hi ht => by
   have hc : ((i : Int) < (a.length : Int)) := by omega
   simp only [qDa, hc, decide_true, if_true, qCe hi, Option.bind_some, wi1 (show i < 1000000 by omega)]
   rw [left1_loop hT hNT]
   simp only [Option.bind_some]
   cases inB T a[i].1 with
   | true => simp
   | false =>
    simp only [Bool.not_false, if_true]
    rw [qCn (by simp only [List.length_cons, List.length_nil]; omega) (by decide)]
    rfl) (fun t i hi t' ht hs => by
   simp only [Sum.inl.injEq] at hs
   subst hs
   split
   ·simp only [List.length_append, List.length_cons, List.length_nil]; omega
   ·omega) (fun t _ => by
   have hc : ¬ ((a.length : Int) < (a.length : Int)) := by omega
   simp only [qDa, hc, decide_false, Bool.false_eq_true, if_false]) (t := []) hN (Nat.zero_le _)
 rw [show ((0 : Nat) : Int) = 0 from rfl] at h
 have hr := run_fold (step := fun (t : List File) (f : File) => (.inl (if (!inB T f.1) = true then t ++ [f] else t) : List File ⊕ List File)) (fin := fun t => t) (fun (t : List File) (f : File) => if (!inB T f.1) = true then t ++ [f] else t) (fun _ _ => rfl) a []
 rw [h, hr]
 congr 1
 have : ∀ (a t : List File), a.foldl (fun t f => if (!inB T f.1) = true then t ++ [f] else t) t = t ++ leftL a T := by
  intro a
  induction a with
  | nil => intro t; simp [leftL]
  | cons x a ih =>
   intro t
   rw [List.foldl_cons, ih]
   unfold leftL
   rw [List.filter_cons]
   split <;> simp
 rw [this]; rfl
def hasP (L : List File) (p : ByteArray) : Bool := L.any fun f => decide (f.1 = p)
theorem hasP_eq (L : List File) (p : ByteArray) : hasP L p = (fget L p).isSome := by
 induction L with
 | nil => rfl
 | cons f L ih =>
  unfold hasP at *
  rw [List.any_cons, ih]
  by_cases h : f.1 = p <;> simp [fget, h]
theorem ex1_loop {N : Nat} {L : List File} {x : Chg} (hl : L.length < 1000000) (hN : L.length < N) : qBf (qCz N L x) N 0 = some (if hasP L x.2.1 = true then (.inr ([], 19) : Res) else .inl ()) := by
 have h := qIb (L := L) (fun (_ : Unit) i => (i : Int)) (f := qCz N L x) (fun _ f => if decide (f.1 = x.2.1) = true then (.inr (.inr ([], 19)) : Unit ⊕ Res) else .inl ()) (fun _ => .inl ()) (fun _ _ => True) (fun t i hi _ => by
   have hc : ((i : Int) < (L.length : Int)) := by omega
   simp only [qCz, hc, decide_true, if_true, qCe hi, Option.bind_some, wi1 (show i < 1000000 by omega), eqB]
   by_cases h : L[i].1 = x.2.1 <;> simp [h]) (fun _ _ _ _ _ _ => trivial) (fun t _ => by
   have hc : ¬ ((L.length : Int) < (L.length : Int)) := by omega
   simp only [qCz, hc, decide_false, Bool.false_eq_true, if_false]) (t := ()) hN trivial
 rw [show ((0 : Nat) : Int) = 0 from rfl] at h
 rw [h]
 congr 1
 refine run_any (α := File) (β := Res) (b := .inr ([], 19)) (fun f => decide (f.1 = x.2.1)) (fun y => ?_) L
 rfl
theorem ex_loop {N : Nat} {l : List Chg} {L : List File} (hL : L.length < 1000000) (hNL : L.length < N) (hl : l.length < 1000000) (hN : l.length < N) :
  qBf (qDf N l L) N 0 = some (if (l.any fun x => putB x && hasP L x.2.1) = true then (.inr ([], 19) : Res) else .inl ()) := by
 have h := qIb (L := l) (fun (_ : Unit) i => (i : Int)) (f := qDf N l L) (fun _ x => if (putB x && hasP L x.2.1) = true then (.inr (.inr ([], 19)) : Unit ⊕ Res) else .inl ()) (fun _ => .inl ()) (fun _ _ => True) (fun t i hi _ => by
   have hc : ((i : Int) < (l.length : Int)) := by omega
   have hp1 : qCb N (l[i].1, l[i].2.1, l[i].2.2.1, l[i].2.2.2) = some (putB l[i]) := puts_eq l[i]
   simp only [qDf, hc, decide_true, if_true, qCe hi, Option.bind_some, wi1 (show i < 1000000 by omega), hp1]
   cases putB l[i] with
   | false => simp
   | true =>
    simp only [Bool.not_true, Bool.false_eq_true, if_false]
    rw [ex1_loop hL hNL]
    cases hasP L l[i].2.1 <;> rfl) (fun _ _ _ _ _ _ => trivial) (fun t _ => by
   have hc : ¬ ((l.length : Int) < (l.length : Int)) := by omega
   simp only [qDf, hc, decide_false, Bool.false_eq_true, if_false]) (t := ()) hN trivial
 rw [show ((0 : Nat) : Int) = 0 from rfl] at h
 rw [h]
 congr 1
 refine run_any (α := Chg) (β := Res) (b := .inr ([], 19)) (fun x => putB x && hasP L x.2.1) (fun y => ?_) l
 rfl
end Go.Proofs.YtgggihpbhmbjaaaGreatDoor
