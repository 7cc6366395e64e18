/- What changes make of a revision, path by path; the order of changes does not matter. No condition. -/
import Derived.Test.YtgggihpbhmbjaaaGreatDoorFdJy3
namespace Go.Proofs.YtgggihpbhmbjaaaGreatDoor
open Go Go.Dc Go.Sort Go.Proofs
theorem puts_cons (x : Chg) (l : List Chg) : putsL (x :: l) = (if putB x = true then [x.2.1] else []) ++ putsL l := by
 unfold putsL; rw [List.filter_cons]; cases putB x <;> rfl
theorem fget_putAll_none (a : List File) {q : ByteArray} : ∀ (l : List Chg) (L : List File), Asc L → q ∉ putsL l → fget (putAllL a L l) q = fget L q
 | [], _, _, _ => rfl
 | c :: l, L, hL, h => by
  rw [puts_cons] at h
  rw [putAll_snocE]
  cases hb : putB c with
  | false =>
   rw [hb] at h
   simp only [Bool.false_eq_true, if_false, List.nil_append] at h ⊢
   exact fget_putAll_none a l L hL h
  | true =>
   rw [hb] at h
   simp only [if_true, List.cons_append, List.nil_append, List.mem_cons, not_or] at h ⊢
   rw [fget_putAll_none a l _ (hL.put _ _) h.2, fget_put hL, if_neg (fun e => h.1 e.symm)]
theorem fget_putAll_some (a : List File) {c : Chg} : ∀ (l : List Chg) (L : List File), Asc L → (putsL l).Nodup → c ∈ l → putB c = true → fget (putAllL a L l) c.2.1 = some (contP a c)
 | [], _, _, _, h, _ => by cases h
 | x :: l, L, hL, hn, h, hb => by
  rw [puts_cons] at hn
  rw [putAll_snocE]
  cases hx : putB x with
  | false =>
   rw [hx] at hn
   simp only [Bool.false_eq_true, if_false, List.nil_append] at hn ⊢
   rcases List.mem_cons.1 h with rfl | h
   ·rw [hb] at hx; cases hx
   ·exact fget_putAll_some a l L hL hn h hb
  | true =>
   rw [hx] at hn
   simp only [if_true, List.cons_append, List.nil_append, List.nodup_cons] at hn ⊢
   rcases List.mem_cons.1 h with rfl | h
   ·rw [fget_putAll_none a l _ (hL.put _ _) hn.1, fget_put hL, if_pos rfl]
   ·exact fget_putAll_some a l _ (hL.put _ _) hn.2 h hb
theorem fget_apply_none {a : List File} (ha : Asc a) {l : List Chg} {q : ByteArray} (h : q ∉ putsL l) : fget (applyL a l) q = if inB (takesL l) q = true then none else fget a q := by
 unfold applyL
 rw [fget_putAll_none a l _ (left_asc ha _) h, fget_left]
theorem fget_apply_some {a : List File} (ha : Asc a) {l : List Chg} (hn : (putsL l).Nodup) {c : Chg} (hc : c ∈ l) (hb : putB c = true) : fget (applyL a l) c.2.1 = some (contP a c) :=
 fget_putAll_some a l _ (left_asc ha _) hn hc hb
theorem takes_perm {l k : List Chg} (h : l.Perm k) : (takesL l).Perm (takesL k) := h.filterMap _
theorem puts_perm {l k : List Chg} (h : l.Perm k) : (putsL l).Perm (putsL k) := (h.filter _).map _
theorem inB_perm {A B : List ByteArray} (h : A.Perm B) (q : ByteArray) : inB A q = inB B q := by rw [Bool.eq_iff_iff, inB_iff, inB_iff]; exact h.mem_iff
theorem any_perm {α : Type} {l k : List α} (h : l.Perm k) (p : α → Bool) : l.any p = k.any p := by
 rw [Bool.eq_iff_iff, List.any_eq_true, List.any_eq_true]
 exact ⟨fun ⟨x, h1, h2⟩ => ⟨x, h.mem_iff.1 h1, h2⟩, fun ⟨x, h1, h2⟩ => ⟨x, h.mem_iff.2 h1, h2⟩⟩
theorem all_perm {α : Type} {l k : List α} (h : l.Perm k) (p : α → Bool) : l.all p = k.all p := by
 rw [Bool.eq_iff_iff, List.all_eq_true, List.all_eq_true]
 exact ⟨fun g x hx => g x (h.mem_iff.2 hx), fun g x hx => g x (h.mem_iff.1 hx)⟩
theorem apply_perm {a : List File} (ha : Asc a) {l k : List Chg} (h : l.Perm k) (hn : (putsL l).Nodup) : applyL a l = applyL a k := by
 have hnk : (putsL k).Nodup := (puts_perm h).nodup_iff.1 hn
 refine Asc.ext (apply_asc ha l) (apply_asc ha k) fun q => ?_
 by_cases hq : q ∈ putsL l
 ·obtain ⟨c, hc, hb, rfl⟩ := putsL_mem.1 hq
  rw [fget_apply_some ha hn hc hb, fget_apply_some ha hnk (h.mem_iff.1 hc) hb]
 ·rw [fget_apply_none ha hq, fget_apply_none ha (fun e => hq ((puts_perm h).mem_iff.2 e)), inB_perm (takes_perm h)]
theorem applyP_perm {a : List File} {l k : List Chg} (h : l.Perm k) : applyP a l = applyP a k := by
 have e1 : l.all formedB = k.all formedB := all_perm h _
 have e2 : distB l = distB k := by
  unfold distB
  rw [Bool.eq_iff_iff, decide_eq_true_eq, decide_eq_true_eq, (takes_perm h).nodup_iff, (puts_perm h).nodup_iff]
 have e3 : unknB a l = unknB a k := any_perm (takes_perm h) _
 have e4 : existsB a l = existsB a k := by
  unfold existsB
  rw [any_perm h]
  congr 1
  funext c
  rw [inB_perm (takes_perm h)]
 unfold applyP
 rw [e1, e2, e3, e4]
 by_cases h1 : checkP a ≠ 0 ∨ k.all formedB = false
 ·rw [if_pos h1, if_pos h1]
 ·rw [if_neg h1, if_neg h1]
  by_cases h2 : distB k = false
  ·rw [if_pos h2, if_pos h2]
  ·rw [if_neg h2, if_neg h2]
   have ha : Asc a := (checkP_wf.1 (Decidable.of_not_not fun e => h1 (.inl e))).2.1
   have hd : distB l = true := by rw [e2]; simpa using h2
   rw [apply_perm ha h (of_decide_eq_true hd).2]
theorem rev_loop {N : Nat} {y2 : (List Int × Int) × List Chg} (hl : y2.2.length < 1000000) : ∀ (k M : Nat) (acc : List Chg), k ≤ y2.2.length → k < M → acc.length + k ≤ 1000000 → loopM (testgatelaw15_FilediffOrder_L1 N y2) M (acc, (k : Int) - 1) = some (acc ++ (y2.2.take k).reverse)
 | _, 0, _, _, h, _ => absurd h (Nat.not_lt_zero _)
 | 0, M + 1, acc, h1, h2, _ => by
  simp only [loopM, testgatelaw15_FilediffOrder_L1]
  have hc : ¬ (((0 : Nat) : Int) - 1 ≥ 0) := by omega
  simp only [hc, decide_false, Bool.false_eq_true, if_false, Option.bind_some, List.take_zero, List.reverse_nil, List.append_nil]
 | k + 1, M + 1, acc, h1, h2, h3 => by
  simp only [loopM, testgatelaw15_FilediffOrder_L1]
  have hc : (((k + 1 : Nat) : Int) - 1 ≥ 0) := by omega
  have e : ((k + 1 : Nat) : Int) - 1 = (k : Int) := by omega
  have hk : k < y2.2.length := by omega
  have w : IntKind.wrap .i64 ((k : Int) - 1) = (k : Int) - 1 := wi64 (by omega) (by omega)
  simp only [hc, decide_true, if_true]
  rw [e, idx_nat hk]
  simp only [Option.bind_some]
  rw [appendS_some (by simp only [List.length_cons, List.length_nil]; omega) (by decide)]
  simp only [Option.bind_some, w]
  rw [rev_loop hl k M _ (by omega) (by omega) (by simp only [List.length_append, List.length_cons, List.length_nil]; omega), take_snoc hk, List.reverse_append, List.append_assoc]
  rfl
theorem FilediffOrder_ok {N : Nat} (hN : 3000000 < N) (l : List Int) : Ok (testgatelaw15_FilediffOrder N l) fun b => b = true := by
 unfold testgatelaw15_FilediffOrder
 refine Ok.bind (two_ok (by omega)) ?_
 rintro _ ⟨a', A, B, rfl, u1, u2, u3, u4, u5, u6⟩
 dsimp only
 refine Ok.bind (changes_ok (by omega) u1 (by omega) u3.small u4.small) ?_
 rintro y2 ⟨a2, x2, rfl, v1, v2, v3, v4⟩
 dsimp only
 have w : IntKind.wrap .i64 ((x2.length : Int) - 1) = (x2.length : Int) - 1 := wi64 (by omega) (by omega)
 rw [w, rev_loop (y2 := ((l, a2), x2)) (by dsimp only; omega) x2.length N [] (Nat.le_refl _) (by omega) (by simp only [List.length_nil]; omega)]
 simp only [Option.bind_some, List.nil_append, List.take_length]
 have pa := small_paths (N := N) u3.small hN
 have hp : x2.reverse.Perm x2 := List.reverse_perm x2
 have hrs : SmallC x2.reverse := fun c hc => v4 c (hp.mem_iff.1 hc)
 rw [Apply_eq (by omega) pa (small_paths (apply_small u3.small v4) hN) (by omega)]
 simp only [Option.bind_some]
 rw [Apply_eq (by rw [List.length_reverse]; omega) pa (small_paths (apply_small u3.small hrs) hN) (by rw [List.length_reverse]; omega), applyP_perm hp]
 have hl := applyP_len A x2
 simp only [Option.bind_some, beq_self_eq_true, if_true]
 rw [refSame_eq (by omega) (by omega)]
 simp only [decide_true, Option.bind_some, if_true]
 rw [fd_awake hN]
 exact Ok.mk rfl
theorem testgatelaw15_FilediffOrder_true (l : List Int) (_gl : l.length * 8 ≤ reachBytes ∧ ∀ x ∈ l, (Lit.int .i64 x).wf = true) : ∃ N, testgatelaw15_FilediffOrder N l = some true := by
 refine ⟨4000000, ?_⟩
 obtain ⟨b, h1, rfl⟩ := FilediffOrder_ok (N := 4000000) (by decide) l
 exact h1
end Go.Proofs.YtgggihpbhmbjaaaGreatDoor
