/- filediff.Apply: the new revision. No condition. -/
import Derived.Test.YtgggihpbhmbjaaaGreatDoorFdDy6
namespace Go.Proofs.YtgggihpbhmbjaaaGreatDoor
open Go Go.Dc Go.Sort Go.Proofs
theorem mdelQ_some {κ ν : Type} [DecidableEq κ] (M : List (κ × ν)) (k : κ) : mdelQ (some M) k = some (mdel M k) := rfl
theorem copy_loop {N : Nat} : ∀ (k M : Fm) (g : ByteArray → Option ByteArray), (k.map (·.1)).Nodup → Rf M g → ∃ M', qIf (qEb N) k (some M) = some (some M') ∧ Rf M' (fun q => match mget k q with | some b => some b | none => g q)
 | [], M, g, _, h => ⟨M, by simp [qIf, qEb], h.congr fun q => by simp [mget]⟩
 | kv :: k, M, g, hn, h => by
  rw [List.map_cons, List.nodup_cons] at hn
  obtain ⟨M', e1, e2⟩ := copy_loop (N := N) k (mset M kv.1 kv.2) _ hn.2 (h.set kv.1 kv.2)
  refine ⟨M', ?_, e2.congr fun q => ?_⟩
  ·simp only [qIf, qEb, qIo, Option.map_some, Option.bind_some]; exact e1
  ·simp only [mget]
   by_cases hq : q = kv.1
   ·have : mget k q = none := qKp.2 (by rw [hq]; exact hn.1)
    rw [this, if_pos hq, if_pos hq]
   ·rw [if_neg hq, if_neg hq]
theorem copy_all {N : Nat} {Ma k : Fm} {g : ByteArray → Option ByteArray} (h : Rf Ma g) (hk : k.Perm Ma) : ∃ M', qIf (qEb N) k (some []) = some (some M') ∧ Rf M' g := by
 have hn : (k.map (·.1)).Nodup := (hk.map _).nodup_iff.2 h.1
 obtain ⟨M', e1, e2⟩ := copy_loop (N := N) k [] (fun _ => none) hn ⟨by simp, fun q => rfl⟩
 refine ⟨M', e1, e2.congr fun q => ?_⟩
 rw [mget_perm hk hn, h.2]
 cases g q <;> rfl
theorem del_loop {N : Nat} : ∀ (k : Bm) (M : Fm) (g : ByteArray → Option ByteArray), Rf M g → ∃ M', qIf (qDw N) k (some M) = some (some M') ∧ Rf M' (fun q => if inB (k.map (·.1)) q = true then none else g q)
 | [], M, g, h => ⟨M, by simp [qIf, qDw], h.congr fun q => by simp [inB]⟩
 | kv :: k, M, g, h => by
  have h1 : Rf (mdel M kv.1) (fun q => if q = kv.1 then none else g q) := ⟨mdel_nodup' h.1 _, fun q => by rw [mget_mdel, h.2]⟩
  obtain ⟨M', e1, e2⟩ := del_loop (N := N) k _ _ h1
  refine ⟨M', ?_, e2.congr fun q => ?_⟩
  ·simp only [qIf, qDw, Option.bind_some, mdelQ_some]; exact e1
  ·have : inB ((kv :: k).map (·.1)) q = (decide (kv.1 = q) || inB (k.map (·.1)) q) := by simp [inB]
   rw [this]
   by_cases hq : q = kv.1
   ·rw [if_pos hq, hq]; simp
   ·have hq2 : ¬ kv.1 = q := fun e => hq e.symm
    simp [hq, hq2]
theorem fget_filter (p : ByteArray → Bool) (q : ByteArray) : ∀ L : List File, fget (L.filter fun f => p f.1) q = if p q = true then fget L q else none
 | [] => by simp [fget]
 | f :: L => by
  have ih := fget_filter p q L
  rw [List.filter_cons]
  by_cases hq : f.1 = q
  ·subst hq
   cases hp : p f.1 with
   | true => simp [fget, hp]
   | false => rw [hp] at ih; simpa [hp] using ih
  ·cases hp : p f.1 with
   | true =>
    simp only [if_true, fget, if_neg hq]
    exact ih
   | false =>
    simp only [Bool.false_eq_true, if_false, fget, if_neg hq]
    exact ih
theorem fget_left (a : List File) (T : List ByteArray) (q : ByteArray) : fget (leftL a T) q = if inB T q = true then none else fget a q := by
 unfold leftL
 rw [fget_filter (fun p => !inB T p)]
 cases inB T q <;> simp
theorem left_asc {a : List File} (h : Asc a) (T : List ByteArray) : Asc (leftL a T) := List.Pairwise.filter _ h
theorem del_all {N : Nat} {M : Fm} {a : List File} {k Mg : Bm} {T : List ByteArray} (h : Rf M (fget a)) (hg : Rb Mg T) (hk : k.Perm Mg) : ∃ M', qIf (qDw N) k (some M) = some (some M') ∧ Rf M' (fget (leftL a T)) := by
 obtain ⟨M', e1, e2⟩ := del_loop (N := N) k M _ h
 refine ⟨M', e1, e2.congr fun q => ?_⟩
 rw [fget_left]
 have : inB (k.map (·.1)) q = inB T q := by
  rw [← hg.2.2 q, Bool.eq_iff_iff, inB_iff, (hk.map _).mem_iff]
  cases hm : mget Mg q with
  | none => rw [qKp] at hm; simp [hm]
  | some v => simp only [Option.isSome_some, iff_true]; exact List.mem_map_of_mem (f := (·.1)) ((qJo hg.1).1 hm)
 rw [this]
theorem qJl (a : List File) (L : List File) (c : Chg) (l : List Chg) : qLn a L (c :: l) = qLn a (if putB c = true then fput L c.2.1 (contP a c) else L) l := rfl
theorem putAll_asc (a : List File) : ∀ {l : List Chg} {L : List File}, Asc L → Asc (qLn a L l)
 | [], L, h => h
 | c :: l, L, h => by
  rw [qJl]
  split
  ·exact putAll_asc a (h.put _ _)
  ·exact putAll_asc a h
theorem put_loop {N : Nat} {a : List File} {Ma : Fm} {Mc Mg : Bm} {l : List Chg} {f1 f2 : Bool} (hl : l.length < 1000000) (hMa : Rf Ma (fget a)) (hg : Rb Mg (qCm l)) : ∀ (d i Mf : Nat) (M : Fm) (L : List File), i + d = l.length → d < Mf → Asc L → Rf M (fget L) →
  if ((l.drop i).any fun c => putB c && (fget a c.2.1).isSome && !inB (qCm l) c.2.1) = true then qBf (qDx N l (some Ma) (f1, f2, some Mc, some Mg)) Mf ((i : Int), some M) = some (.inr ([], 19))
  else ∃ M', qBf (qDx N l (some Ma) (f1, f2, some Mc, some Mg)) Mf ((i : Int), some M) = some (.inl (some M')) ∧ Rf M' (fget (qLn a L (l.drop i)))
 | _, _, 0, _, _, _, h, _, _ => absurd h (Nat.not_lt_zero _)
 | d, i, Mf + 1, M, L, h1, h2, h3, h4 => by
  simp only [qBf, qDx]
  cases d with
  | zero =>
   have hc : ¬ ((i : Int) < (l.length : Int)) := by omega
   simp only [hc, decide_false, Bool.false_eq_true, if_false, Option.bind_some]
   rw [List.drop_of_length_le (by omega), List.any_nil, if_neg Bool.false_ne_true]
   exact ⟨M, rfl, h4⟩
  | succ d =>
   have hi : i < l.length := by omega
   have hc : ((i : Int) < (l.length : Int)) := by omega
   have w2 : IntKind.wrap .i64 ((i : Int) + 1) = ((i + 1 : Nat) : Int) := by rw [wi64 (by omega) (by omega)]; omega
   have hpe := put_eqB (N := N) l[i]
   simp only [hc, decide_true, if_true, qCe hi, Option.bind_some]
   rw [show qHr N (l[i].1, l[i].2.1, l[i].2.2.1, l[i].2.2.2) = _ from hpe, drop_cons' hi, List.any_cons, qJl]
   cases hb : putB l[i] with
   | false =>
    simp only [Option.bind_some, Bool.not_false, if_true, w2, Bool.false_and, Bool.false_or, Bool.false_eq_true, if_false]
    exact put_loop hl hMa hg d (i + 1) Mf M L (by omega) (by omega) h3 h4
   | true =>
    simp only [Option.bind_some, Bool.not_true, Bool.false_eq_true, if_false, Bool.true_and, if_true, qDj, hMa.2, hg.get]
    have e : (if (fget a l[i].2.1).isSome = true then some (!inB (qCm l) l[i].2.1) else some false) = some ((fget a l[i].2.1).isSome && !inB (qCm l) l[i].2.1) := by cases fget a l[i].2.1 <;> simp
    rw [e]
    simp only [Option.bind_some]
    cases hx : ((fget a l[i].2.1).isSome && !inB (qCm l) l[i].2.1) with
    | true => simp only [if_true, Option.map_some, Option.bind_some, Bool.true_or]
    | false =>
     simp only [Bool.false_eq_true, if_false, Bool.false_or, qIo, Option.map_some, Option.bind_some]
     by_cases h44 : l[i].1 = 4
     ·have hb4 : (l[i].1 == 4) = true := by simpa using h44
      simp only [hb4, if_true, Option.bind_some, w2]
      refine put_loop hl hMa hg d (i + 1) Mf _ _ (by omega) (by omega) (h3.put _ _) (((h4.set _ _).set _ _).congr fun q => ?_)
      rw [fget_put h3]
      by_cases hq : q = l[i].2.1
      ·rw [if_pos hq, if_pos hq.symm]; simp only [contP, h44, if_true]; rfl
      ·rw [if_neg hq, if_neg hq, if_neg (fun e => hq e.symm)]
     ·have hb4 : (l[i].1 == 4) = false := by simpa using h44
      simp only [hb4, Bool.false_eq_true, if_false, Option.bind_some, w2]
      refine put_loop hl hMa hg d (i + 1) Mf _ _ (by omega) (by omega) (h3.put _ _) ((h4.set _ _).congr fun q => ?_)
      rw [fget_put h3]
      by_cases hq : q = l[i].2.1
      ·rw [if_pos hq, if_pos hq.symm]; simp only [contP, h44, if_false]
      ·rw [if_neg hq, if_neg (fun e => hq e.symm)]
theorem coll_loop {N : Nat} : ∀ (k : Fm) (out : List File), out.length + k.length < 1000000 → qIf (qFd N) k out = some (out ++ k)
 | [], out, _ => by simp [qIf, qFd]
 | kv :: k, out, h => by
  simp only [List.length_cons] at h
  simp only [qIf, qFd]
  rw [qCn (by simp only [List.length_cons, List.length_nil]; omega) (by decide)]
  simp only [Option.bind_some]
  rw [coll_loop k _ (by simp only [List.length_append, List.length_cons, List.length_nil]; omega), List.append_assoc]; rfl
theorem asc_c {L : List File} (h : Asc L) : L.Pairwise fun x y => cmpS x.1 y.1 < 0 := h.imp fun h => blt_iff.1 h
theorem sort_files {N : Nat} {k M : Fm} {F : List File} (hN : 10 ≤ N) (hl : k.length < 1000000) (hM : Rf M (fget F)) (hF : Asc F) (hk : k.Perm M) : qBj N k = some F := by
 have hn : (k.map (·.1)).Nodup := (hk.map _).nodup_iff.2 hM.1
 unfold qBj
 rw [if_pos ⟨hN, by omega, fun x hx y hy h => key_inj hn hx hy ((cmpS_lin.zero _ _).1 h)⟩]
 congr 1
 have h1 := sort_pair cmpFile_swo cmpFile_anti k
 have h2 : (k.mergeSort fun x y => !(ltOf qMg) y x).Pairwise fun x y => x.1 ≠ y.1 := by
  have : ((k.mergeSort fun x y => !(ltOf qMg) y x).map fun x => x.1).Nodup := ((List.mergeSort_perm k _).map _).nodup_iff.2 hn
  exact List.pairwise_map.1 this
 refine strict_ext2 (c := fun x y : File => cmpS x.1 y.1 < 0) (fun z => cS_irr _) (fun _ _ _ => cmpS_lin.trans _ _ _) ((h1.and h2).imp fun {x y} h => ?_) (asc_c hF) fun z => ?_
 ·obtain ⟨a, b⟩ := h
  have a' : ¬ cmpS y.1 x.1 < 0 := a
  have e1 := cmpS_lin.anti x.1 y.1
  have e2 : cmpS y.1 x.1 ≠ 0 := fun e => b ((cmpS_lin.zero _ _).1 e).symm
  omega
 ·rw [List.mem_mergeSort, hk.mem_iff, ← qJo (k := z.1) (v := z.2) hM.1, hM.2]
  constructor
  ·intro h; exact fget_mem h
  ·intro h; exact qIg hF h
theorem Rf.len {M : Fm} {F : List File} (h : Rf M (fget F)) (hF : Asc F) : M.length = F.length := by
 have hp : M.Perm F := by
  have n1 : M.Nodup := List.Pairwise.of_map (·.1) (fun x y h e => h (by rw [e])) h.1
  have n2 : F.Nodup := List.Pairwise.of_map (·.1) (fun x y h e => h (by rw [e])) (qMj hF)
  rw [List.perm_ext_iff_of_nodup n1 n2]
  intro z
  rw [← qJo (k := z.1) (v := z.2) h.1, h.2]
  constructor
  ·intro h; exact fget_mem h
  ·intro h; exact qIg hF h
 exact hp.length_eq
theorem putAll_len (a : List File) : ∀ (l : List Chg) (L : List File), (qLn a L l).length ≤ L.length + l.length
 | [], L => by simp [qLn]
 | c :: l, L => by
  rw [qJl]
  have h1 := putAll_len a l (fput L c.2.1 (contP a c))
  have h2 := putAll_len a l L
  have h3 := qLo L c.2.1 (contP a c)
  split <;> simp only [List.length_cons] <;> omega
theorem apply_asc {a : List File} (ha : Asc a) (l : List Chg) : Asc (qKe a l) := putAll_asc a (left_asc ha _)
theorem apply_len (a : List File) (l : List Chg) : (qKe a l).length ≤ a.length + l.length := by
 have h1 := putAll_len a l (leftL a (qCm l))
 have h2 : (leftL a (qCm l)).length ≤ a.length := List.length_filter_le _ _
 unfold qKe; omega
theorem Apply_eq {N : Nat} {a : List File} {l : List Chg} (hl : l.length < 100000) (hPa : qJv N a) (hPf : qJv N (qKe a l)) (hN : 1000 + l.length < N) : qEk N a l = some (qKc a l) := by
 unfold qEk qKc
 rw [Check_eq hPa (by omega)]
 by_cases h1 : qGf a = 0
 ·have wa := qHp.1 h1
  obtain ⟨o, e1, e2⟩ := formed_loop (N := N) (l := l) (by omega) l.length 0 N (by omega) (by omega)
  rw [List.drop_zero] at e2
  rw [show qBf (qGh N l) N 0 = some o from e1]
  simp only [h1, bne_self_eq_false, Bool.false_eq_true, if_false, Option.bind_some, ne_eq, not_true_eq_false, false_or]
  cases hf : l.all qGn with
  | false =>
   rw [hf, if_neg Bool.false_ne_true] at e2
   obtain ⟨k, rfl, hk⟩ := e2
   simp only [Option.bind_some, ge_iff_le, hk, decide_true, if_true]
  | true =>
   rw [hf, if_pos rfl] at e2
   subst e2
   have hm1 : decide ((-1 : Int) ≥ 0) = false := by decide
   simp only [Option.bind_some, hm1, Bool.false_eq_true, if_false, Bool.true_eq_false]
   obtain ⟨Ma, g1, hMa⟩ := files_loop (N := N) (a := a) (by have := wa.1; omega) wa.2.1 a.length 0 N [] (by omega) (by have := wa.1; omega) ⟨by simp, fun q => rfl⟩
   rw [show qBf (qGi N a) N (0, some []) = some (some Ma) from g1]
   simp only [Option.bind_some]
   obtain ⟨Mc, Mg, g2, hMc, hMg⟩ := qMk (N := N) (a := a) (l := l) (by omega) hMa l.length 0 N false false [] [] (by omega) (by omega) rfl rfl ⟨by simp, by simp, fun q => rfl⟩ ⟨by simp, by simp, fun q => rfl⟩
   rw [show qBf (qGg N l (some Ma)) N (false, false, 0, some [], some []) = _ from g2]
   simp only [Option.bind_some]
   cases hd : distB l with
   | false => simp only [Bool.not_false, if_true]
   | true =>
    simp only [Bool.not_true, Bool.false_eq_true, if_false, Bool.true_eq_false]
    cases hu : unknB a l with
    | true => simp only [if_true]
    | false =>
     simp only [Bool.false_eq_true, if_false, Option.getD_some]
     refine mrangeK_of fun k4 hk4 => ?_
     obtain ⟨M4, g4, hM4⟩ := copy_all (N := N) hMa hk4
     rw [g4]
     simp only [Option.bind_some]
     refine mrangeK_of fun k5 hk5 => ?_
     obtain ⟨M5, g5, hM5⟩ := del_all (N := N) hM4 hMg hk5
     rw [g5]
     simp only [Option.bind_some]
     have g6 := put_loop (N := N) (Mc := Mc) (f1 := !(true : Bool)) (f2 := false) (by omega) hMa hMg l.length 0 N M5 (leftL a (qCm l)) (by omega) (by omega) (left_asc wa.2.1 _) hM5
     rw [List.drop_zero] at g6
     unfold existsB
     by_cases hx : (l.any fun c => putB c && (fget a c.2.1).isSome && !inB (qCm l) c.2.1) = true
     ·rw [if_pos hx] at g6
      rw [show qBf (qDx N l (some Ma) (false, false, some Mc, some Mg)) N (0, some M5) = _ from g6, if_pos hx]
      rfl
     ·rw [if_neg hx] at g6
      obtain ⟨M6, g7, hM6⟩ := g6
      rw [show qBf (qDx N l (some Ma) (false, false, some Mc, some Mg)) N (0, some M5) = _ from g7, if_neg hx]
      simp only [Option.bind_some, Option.getD_some]
      have hF := apply_asc wa.2.1 l
      have hlen : M6.length = (qKe a l).length := hM6.len hF
      have hle := apply_len a l
      have hal := wa.1
      refine mrangeK_of fun k7 hk7 => ?_
      have hk7l := hk7.length_eq
      rw [coll_loop k7 [] (by simp only [List.length_nil]; omega)]
      simp only [Option.bind_some, List.nil_append]
      rw [sort_files (F := qKe a l) (by omega) (by omega) hM6 hF hk7]
      simp only [Option.bind_some]
      rw [Check_eq hPf (by omega)]
      simp only [Option.bind_some]
      by_cases hcf : qGf (qKe a l) = 0
      ·simp only [hcf, bne_self_eq_false, Bool.false_eq_true, if_false, if_true]
      ·have : (qGf (qKe a l) != 0) = true := by simpa using hcf
       simp only [this, if_true, hcf, if_false]
 ·have : (qGf a != 0) = true := by simpa using h1
  simp only [this, if_true, Option.bind_some, ne_eq, h1, not_false_eq_true, true_or]
end Go.Proofs.YtgggihpbhmbjaaaGreatDoor
