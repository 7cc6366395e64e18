/- The reference's Apply is the program's: what is put. No condition. -/
import Derived.Test.YtgggihpbhmbjaaaGreatDoorFdFy6
namespace Go.Proofs.YtgggihpbhmbjaaaGreatDoor
open Go Go.Dc Go.Sort Go.Proofs
def insF (L : List File) (p b : ByteArray) : List File := L.take (lowK L p) ++ (p, b) :: L.drop (lowK L p)
theorem insF_put {L : List File} (ha : Asc L) {p : ByteArray} (b : ByteArray) (h : fget L p = none) : insF L p b = fput L p b := by
 rw [fput_low ha, h]; rfl
theorem low_loop {N : Nat} {L : List File} {x : Chg} {k : Int} (hl : L.length < 1000000) : ∀ (d i Mf : Nat), i + d = L.length → d < Mf → qBf (qCv N (k, L) x) Mf (i : Int) = some ((i + lowK (L.drop i) x.2.1 : Nat) : Int)
 | _, _, 0, _, h => absurd h (Nat.not_lt_zero _)
 | d, i, Mf + 1, h1, h2 => by
  simp only [qBf, qCv]
  cases d with
  | zero =>
   have hc : ¬ ((i : Int) < (L.length : Int)) := by omega
   simp only [hc, decide_false, Bool.false_eq_true, if_false, Option.bind_some]
   rw [List.drop_of_length_le (by omega)]; rfl
  | succ d =>
   have hi : i < L.length := by omega
   have hc : ((i : Int) < (L.length : Int)) := by omega
   simp only [hc, decide_true, if_true, qCe hi, Option.bind_some]
   rw [drop_cons' hi]
   simp only [lowK]
   rw [show Op.bytesLess L[i].1.toList x.2.1.toList = blt L[i].1 x.2.1 from rfl]
   cases hb : blt L[i].1 x.2.1 with
   | true =>
    simp only [if_true, wi1 (show i < 1000000 by omega), Option.bind_some]
    rw [low_loop hl d (i + 1) Mf (by omega) (by omega)]
    congr 2; omega
   | false => simp
theorem put1 {N : Nat} {L : List File} {x : Chg} {k : Int} {b : ByteArray} (hl : L.length < 1000000) (hN : L.length < N) :
  ((qBf (qCv N (k, L) x) N 0).bind fun o17 => (qEo 32 L ([((⟨#[]⟩ : ByteArray), (⟨#[]⟩ : ByteArray))])).bind fun l4 => (chkS l4 (IntKind.wrap .i64 (o17 + 1)) (List.length l4 : Int)).bind fun _ => (chkS l4 o17 (List.length l4 : Int)).bind fun _ => (copyM l4 (IntKind.wrap .i64 (o17 + 1)) o17).bind fun l5 => (idx l5 o17).bind fun _ => some (List.set l5 (Int.toNat o17) (x.2.1, b))) = some (insF L x.2.1 b) := by
 have h1 := low_loop (N := N) (L := L) (x := x) (k := k) hl L.length 0 N (by omega) hN
 have h1' : qBf (qCv N (k, L) x) N 0 = some ((lowK L x.2.1 : Nat) : Int) := by
  have e : (0 + lowK (L.drop 0) x.2.1 : Nat) = lowK L x.2.1 := by rw [List.drop_zero, Nat.zero_add]
  rw [e] at h1; exact h1
 have hp := lowK_le L x.2.1
 unfold insF
 generalize hk : lowK L x.2.1 = j at *
 have w : IntKind.wrap .i64 ((j : Int) + 1) = ((j + 1 : Nat) : Int) := by rw [wi64 (by omega) (by omega)]; omega
 rw [h1']
 simp only [Option.bind_some, w]
 rw [qCn (by simp only [List.length_cons, List.length_nil]; omega) (by decide)]
 simp only [Option.bind_some]
 generalize hz : (((⟨#[]⟩ : ByteArray), (⟨#[]⟩ : ByteArray)) : File) = z
 have hlen : (L ++ [z]).length = L.length + 1 := by simp
 have c1 : chkS (L ++ [z]) ((j + 1 : Nat) : Int) ((L ++ [z]).length : Int) = some () := by unfold chkS; rw [if_pos (by rw [hlen]; omega)]
 have c2 : chkS (L ++ [z]) (j : Int) ((L ++ [z]).length : Int) = some () := by unfold chkS; rw [if_pos (by rw [hlen]; omega)]
 have c3 : copyM (L ++ [z]) ((j + 1 : Nat) : Int) (j : Int) = some (copyL (L ++ [z]) (j + 1) j) := by unfold copyM; rw [if_pos (by rw [hlen]; omega)]; rfl
 simp only [c1, c2, c3, Option.bind_some]
 have e : copyL (L ++ [z]) (j + 1) j = (L ++ [z]).take (j + 1) ++ L.drop j := by
  have t1 : ((L ++ [z]).drop j).take (L.length - j) = L.drop j := by
   rw [List.drop_append_of_le_length hp, List.take_append_of_le_length (by rw [List.length_drop]; omega), List.take_of_length_le (by rw [List.length_drop]; omega)]
  have t2 : (L ++ [z]).drop (L.length + 1) = [] := List.drop_of_length_le (by rw [hlen]; omega)
  unfold copyL
  rw [hlen, show min (L.length + 1 - j) (L.length + 1 - (j + 1)) = L.length - j by omega, show j + 1 + (L.length - j) = L.length + 1 by omega, t1, t2, List.append_nil]
 have hlt : j < (copyL (L ++ [z]) (j + 1) j).length := by rw [e]; simp only [List.length_append, List.length_take, List.length_cons, List.length_nil, List.length_drop]; omega
 rw [qCe hlt]
 simp only [Option.bind_some, Int.toNat_natCast]
 congr 1
 rw [e]
 have e2 : (L ++ [z]).take (j + 1) = L.take j ++ [((L ++ [z])[j]'(by rw [hlen]; omega))] := by
  rw [List.take_succ_eq_append_getElem (by rw [hlen]; omega), List.take_append_of_le_length hp]
 rw [e2, List.append_assoc, List.set_append_right _ _ (by simp only [List.length_take]; omega)]
 have e3 : j - (L.take j).length = 0 := by simp only [List.length_take]; omega
 rw [e3]; rfl
theorem insF_len (L : List File) (p b : ByteArray) : (insF L p b).length = L.length + 1 := by
 have := lowK_le L p
 unfold insF
 simp only [List.length_append, List.length_take, List.length_cons, List.length_drop]; omega
abbrev Res2 := List File ⊕ (List File × Int)
def stepI (a : List File) (L : List File) (x : Chg) : List File ⊕ Res2 := if putB x = false then .inl L else if qIp x.2.1.data.toList = false then .inr (.inr ([], 1)) else .inl (insF L x.2.1 (contP a x))
theorem put_run (a : List File) : ∀ (l : List Chg) (L : List File), Asc L → (qGd l).Nodup → (∀ p ∈ qGd l, fget L p = none) →
  run (stepI a) (fun L => .inl L) l L = if (l.all fun x => !putB x || qIp x.2.1.data.toList) = true then .inl (qLn a L l) else .inr ([], 1)
 | [], L, _, _, _ => rfl
 | x :: l, L, h, hd, hn => by
  have e2 : qGd (x :: l) = (if putB x = true then [x.2.1] else []) ++ qGd l := by
   unfold qGd; rw [List.filter_cons]; cases putB x <;> rfl
  rw [e2] at hd hn
  simp only [run]
  rw [List.all_cons, qJl]
  cases hb : putB x with
  | false =>
   rw [hb] at hd hn
   simp only [Bool.false_eq_true, if_false, List.nil_append] at hd hn
   have es : stepI a L x = .inl L := by unfold stepI; rw [hb]; rfl
   rw [es]
   simp only [Bool.not_false, Bool.true_or, Bool.true_and, Bool.false_eq_true, if_false]
   exact put_run a l L h hd hn
  | true =>
   rw [hb] at hd hn
   simp only [if_true, List.cons_append, List.nil_append, List.nodup_cons] at hd hn
   cases hpb : qIp x.2.1.data.toList with
   | false =>
    have es : stepI a L x = .inr (.inr ([], 1)) := by unfold stepI; rw [hb, hpb]; rfl
    rw [es]
    simp
   | true =>
    have es : stepI a L x = .inl (insF L x.2.1 (contP a x)) := by unfold stepI; rw [hb, hpb]; rfl
    rw [es, insF_put h _ (hn x.2.1 (List.mem_cons_self ..))]
    simp only [Bool.not_true, Bool.false_or, Bool.true_and, if_true]
    refine put_run a l _ (h.put _ _) hd.2 fun p hp => ?_
    rw [fget_put h, if_neg (fun e => hd.1 (by rw [e]; exact hp))]
    exact hn p (List.mem_cons_of_mem _ hp)
theorem refput_loop {N : Nat} {a L0 : List File} {l : List Chg} (ha : WF a) (hL : L0.length ≤ 64) (hl : l.length < 100000) (hN : 1000 + l.length < N) :
  qBf (qCy N a l) N (0, L0) = some (run (stepI a) (fun L => .inl L) l L0) := by
 have h := qIb (L := l) (fun (t : List File) i => ((i : Int), t)) (f := qCy N a l) (stepI a) (fun t => .inl t) (fun i t => t.length ≤ 64 + i) (fun t i hi ht => by
   have hc : ((i : Int) < (l.length : Int)) := by omega
   have hp1 : qCb N (l[i].1, l[i].2.1, l[i].2.2.1, l[i].2.2.2) = some (putB l[i]) := puts_eq l[i]
   simp only [qCy, hc, decide_true, if_true, qCe hi, Option.bind_some, wi1 (show i < 1000000 by omega), hp1]
   unfold stepI
   cases hb : putB l[i] with
   | false => simp
   | true =>
    simp only [Bool.not_true, Bool.false_eq_true, if_false, Bool.true_eq_false]
    have hcont : ((if (l[i].1 == 4) = true then (qCr N a l[i].2.2.1).bind fun y15 => some y15.1 else some l[i].2.2.2) : Option ByteArray) = some (contP a l[i]) := by
     unfold contP
     by_cases h4 : l[i].1 = 4
     ·rw [if_pos (by simpa using h4), if_pos h4, reffind_wf _ ha (by omega)]
      cases fget a l[i].2.2.1 <;> rfl
     ·rw [if_neg (by simpa using h4), if_neg h4]
    rw [hcont]
    simp only [Option.bind_some]
    rw [refPath_eq (by omega)]
    simp only [Option.bind_some]
    cases hpb : qIp l[i].2.1.data.toList with
    | false => simp
    | true =>
     simp only [Bool.not_true, Bool.false_eq_true, if_false, Bool.true_eq_false]
     have hput := put1 (N := N) (L := t) (x := l[i]) (k := (i : Int)) (b := contP a l[i]) (by omega) (by omega)
     have hput2 := congrArg (fun o : Option (List File) => o.bind fun z => (some (.inl z) : Option (List File ⊕ ((Int × List File) ⊕ Res2)))) hput
     simp only [Option.bind_assoc, Option.bind_some] at hput2
     rw [hput2]
     rfl) (fun t i hi t' ht hs => by
   unfold stepI at hs
   split at hs
   ·simp only [Sum.inl.injEq] at hs; subst hs; omega
   ·split at hs
    ·cases hs
    ·simp only [Sum.inl.injEq] at hs; subst hs; rw [insF_len]; omega) (fun t _ => by
   have hc : ¬ ((l.length : Int) < (l.length : Int)) := by omega
   simp only [qCy, hc, decide_false, Bool.false_eq_true, if_false]) (M := N) (t := L0) (by omega) (by omega)
 exact h
theorem putAll_has (a : List File) : ∀ (l : List Chg) (L : List File), Asc L → ∀ p, ((fget L p).isSome = true ∨ p ∈ qGd l) → (fget (qLn a L l) p).isSome = true
 | [], L, _, p, h => by
  rcases h with h | h
  ·exact h
  ·simp [qGd] at h
 | x :: l, L, hL, p, h => by
  have e2 : qGd (x :: l) = (if putB x = true then [x.2.1] else []) ++ qGd l := by
   unfold qGd; rw [List.filter_cons]; cases putB x <;> rfl
  rw [qJl]
  rw [e2] at h
  cases hb : putB x with
  | false =>
   rw [hb] at h
   simp only [Bool.false_eq_true, if_false, List.nil_append] at h ⊢
   exact putAll_has a l L hL p h
  | true =>
   rw [hb] at h
   simp only [if_true, List.cons_append, List.nil_append, List.mem_cons] at h ⊢
   refine putAll_has a l _ (hL.put _ _) p ?_
   rw [fget_put hL]
   by_cases e : x.2.1 = p
   ·left; rw [if_pos e]; rfl
   ·rw [if_neg e]
    rcases h with h | h | h
    ·exact .inl h
    ·exact absurd h.symm e
    ·exact .inr h
theorem wf_all {F : List File} (h : WF F) {p : ByteArray} (hp : (fget F p).isSome = true) : qIp p.data.toList = true := by
 obtain ⟨y, hy⟩ := Option.isSome_iff_exists.1 hp
 exact (h.2.2 _ (fget_mem hy)).1
theorem exists_eq (a : List File) (l : List Chg) : (l.any fun x => putB x && hasP (leftL a (qCm l)) x.2.1) = existsB a l := by
 unfold existsB
 congr 1
 funext x
 rw [hasP_eq, fget_left]
 cases putB x <;> cases inB (qCm l) x.2.1 <;> simp
theorem putsL_mem {l : List Chg} {p : ByteArray} : p ∈ qGd l ↔ ∃ c ∈ l, putB c = true ∧ c.2.1 = p := by
 unfold qGd
 simp only [List.mem_map, List.mem_filter, and_assoc]
theorem refApply_eq {N : Nat} {a : List File} {l : List Chg} (hl : l.length < 100000) (hN : 1000 + l.length < N) : qDu N a l = some (qKc a l) := by
 unfold qDu qKc
 rw [qLj (by omega)]
 by_cases h1 : qGf a = 0
 ·have wa := qHp.1 h1
  have hwl := qIb (L := l) (fun (_ : Unit) i => (i : Int)) (f := qDd N l) (fun _ x => if (!qGn x) = true then (.inr (.inr ([], 1)) : Unit ⊕ Res) else .inl ()) (fun _ => .inl ()) (fun _ _ => True) (fun t i hi _ => by
   have hc : ((i : Int) < (l.length : Int)) := by omega
   have hp1 : qHa N (l[i].1, l[i].2.1, l[i].2.2.1, l[i].2.2.2) = some (qGn l[i]) := well_eq l[i]
   simp only [qDd, hc, decide_true, if_true, qCe hi, Option.bind_some, wi1 (show i < 1000000 by omega), hp1]
   cases qGn l[i] <;> rfl) (fun _ _ _ _ _ _ => trivial) (fun t _ => by
   have hc : ¬ ((l.length : Int) < (l.length : Int)) := by omega
   simp only [qDd, hc, decide_false, Bool.false_eq_true, if_false]) (M := N) (t := ()) (by omega) trivial
  have hra : run (fun (_ : Unit) x => if (!qGn x) = true then (.inr (.inr ([], 1)) : Unit ⊕ Res) else .inl ()) (fun _ => .inl ()) l () = if (l.any fun x => !qGn x) = true then .inr ([], 1) else .inl () := by
   refine run_any (α := Chg) (β := Res) (b := .inr ([], 1)) (fun x => !qGn x) (fun y => ?_) l
   rfl
  rw [hra] at hwl
  have hany : (l.any fun x => !qGn x) = !(l.all qGn) := by rw [List.not_all_eq_any_not]
  rw [hany] at hwl
  rw [show qBf (qDd N l) N 0 = _ from hwl]
  simp only [h1, bne_self_eq_false, Bool.false_eq_true, if_false, Option.bind_some, ne_eq, not_true_eq_false, false_or]
  cases hf : l.all qGn with
  | false => simp only [Bool.not_false, if_true]
  | true =>
   have hfa : ∀ y ∈ l, qGn y = true := List.all_eq_true.1 hf
   simp only [Bool.not_true, Bool.false_eq_true, if_false, Bool.true_eq_false]
   rw [twice_loop hfa (by omega) (by omega)]
   cases hd : distB l with
   | false => simp only [Bool.false_eq_true, if_false, Option.bind_some, if_true]
   | true =>
    simp only [if_true, Option.bind_some, Bool.true_eq_false, if_false]
    rw [unk_loop wa hfa (by omega) (by omega) (by omega)]
    cases hu : unknB a l with
    | true => simp only [if_true, Option.bind_some]
    | false =>
     simp only [Bool.false_eq_true, if_false, Option.bind_some]
     have hTl : (qCm l).length ≤ l.length := List.length_filterMap_le _ _
     have hal := wa.1
     rw [left_loop (by omega) (by omega) (by omega) (by omega)]
     simp only [Option.bind_some]
     have hLl : (leftL a (qCm l)).length ≤ a.length := List.length_filter_le _ _
     rw [ex_loop (by omega) (by omega) (by omega) (by omega), exists_eq]
     cases hx : existsB a l with
     | true => simp only [if_true, Option.bind_some]
     | false =>
      simp only [Bool.false_eq_true, if_false, Option.bind_some]
      rw [refput_loop wa (by omega) hl hN]
      have hdd := of_decide_eq_true hd
      have hnone : ∀ p ∈ qGd l, fget (leftL a (qCm l)) p = none := fun p hp => by
       obtain ⟨c, hc, hcb, rfl⟩ := putsL_mem.1 hp
       rw [fget_left]
       have := List.any_eq_false.1 hx c hc
       rw [hcb] at this
       cases hi : inB (qCm l) c.2.1 with
       | true => rfl
       | false =>
        rw [hi] at this
        cases hg : fget a c.2.1 with
        | none => rfl
        | some y => rw [hg] at this; simp at this
      rw [put_run a l _ (left_asc wa.2.1 _) hdd.2 hnone]
      have hApp : qLn a (leftL a (qCm l)) l = qKe a l := rfl
      rw [hApp]
      by_cases hall : (l.all fun x => !putB x || qIp x.2.1.data.toList) = true
      ·rw [if_pos hall]
       simp only [Option.bind_some]
       rw [qLj (by omega)]
       simp only [Option.bind_some]
       by_cases hcf : qGf (qKe a l) = 0
       ·simp only [hcf, bne_self_eq_false, Bool.false_eq_true, if_false, if_true]
       ·have : (qGf (qKe a l) != 0) = true := by simpa using hcf
        simp only [this, if_true, hcf, if_false]
      ·rw [if_neg hall]
       simp only [Option.bind_some]
       have hcf : ¬ qGf (qKe a l) = 0 := fun e => by
        have hwf := qHp.1 e
        apply hall
        refine List.all_eq_true.2 fun x hx => ?_
        cases hb : putB x with
        | false => rfl
        | true =>
         have := putAll_has a l (leftL a (qCm l)) (left_asc wa.2.1 _) x.2.1 (.inr (putsL_mem.2 ⟨x, hx, hb, rfl⟩))
         rw [hApp] at this
         simpa using wf_all hwf this
       rw [if_neg hcf]
 ·have : (qGf a != 0) = true := by simpa using h1
  simp only [this, if_true, Option.bind_some, ne_eq, h1, not_false_eq_true, true_or]
end Go.Proofs.YtgggihpbhmbjaaaGreatDoor
