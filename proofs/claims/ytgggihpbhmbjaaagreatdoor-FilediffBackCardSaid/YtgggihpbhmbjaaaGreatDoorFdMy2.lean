/- FilediffBack: the changes between two revisions lead from one to the other. No condition. -/
import Derived.Test.YtgggihpbhmbjaaaGreatDoorFdKy2
namespace Go.Proofs.YtgggihpbhmbjaaaGreatDoor
open Go Go.Dc Go.Sort Go.Proofs
theorem takes_app (l k : List Chg) : takesL (l ++ k) = takesL l ++ takesL k := by unfold takesL; rw [List.filterMap_append]
theorem puts_app (l k : List Chg) : putsL (l ++ k) = putsL l ++ putsL k := by unfold putsL; rw [List.filter_append, List.map_append]
theorem takeB_perm : ∀ {U : List File} {B p : ByteArray} {t : List ByteArray}, ofB B U = p :: t → ∃ g ∈ U, g.1 = p ∧ g.2 = B ∧ U.Perm (g :: takeB U B)
 | [], B, p, t, h => by simp [ofB] at h
 | g :: U, B, p, t, h => by
  by_cases hg : g.2 = B
  ·have h1 : ofB B (g :: U) = g.1 :: ofB B U := by simp [ofB, hg]
   rw [h1] at h
   simp only [List.cons.injEq] at h
   refine ⟨g, List.mem_cons_self .., h.1, hg, ?_⟩
   unfold takeB
   rw [List.eraseP_cons_of_pos (by simpa using hg)]
  ·have h1 : ofB B (g :: U) = ofB B U := by simp [ofB, hg]
   rw [h1] at h
   obtain ⟨g2, h2, h3, h4, h5⟩ := takeB_perm h
   refine ⟨g2, List.mem_cons_of_mem _ h2, h3, h4, ?_⟩
   unfold takeB at *
   rw [List.eraseP_cons_of_neg (by simpa using hg)]
   exact (h5.cons g).trans (.swap g2 g _)
theorem match_takes (U : List File) (f : File) : ((match takenP (matchF U f).1 with | some p => [p] | none => []) ++ (matchF U f).2.map (·.1)).Perm (U.map (·.1)) := by
 unfold matchF
 cases h : ofB f.2 U with
 | nil => exact .refl _
 | cons p t =>
  obtain ⟨g, h2, h3, h4, h5⟩ := takeB_perm h
  simp only [takenP, if_true, List.cons_append, List.nil_append]
  rw [← h3]
  exact (h5.map (·.1)).symm
theorem adds_takes (a : List File) : ∀ (b U : List File), (takesL (addsF a b U).1 ++ (addsF a b U).2.map (·.1)).Perm (U.map (·.1))
 | [], _ => .refl _
 | f :: b, U => by
  simp only [addsF]
  split
  ·exact adds_takes a b U
  ·have ih := adds_takes a b (matchF U f).2
   have e1 : takesL ((matchF U f).1 :: (addsF a b (matchF U f).2).1) = (match takenP (matchF U f).1 with | some p => [p] | none => []) ++ takesL (addsF a b (matchF U f).2).1 := by
    unfold takesL; rw [List.filterMap_cons]; cases takenP (matchF U f).1 <;> rfl
   rw [e1, List.append_assoc]
   exact (ih.append_left _).trans (match_takes U f)
theorem match_put (U : List File) (f : File) : putB (matchF U f).1 = true ∧ formedB (matchF U f).1 = true := by
 unfold matchF
 split <;> exact ⟨rfl, by simp [formedB]⟩
theorem adds_mem {a : List File} (ha : Asc a) : ∀ {b U : List File}, (∀ g ∈ U, g ∈ a) → ∀ c ∈ (addsF a b U).1, putB c = true ∧ formedB c = true ∧ ∃ f ∈ b, fget a f.1 = none ∧ c.2.1 = f.1 ∧ contP a c = f.2
 | [], U, _, c, hc => by cases hc
 | f :: b, U, hU, c, hc => by
  simp only [addsF] at hc
  split at hc
  ·obtain ⟨h1, h2, g, hg, h3⟩ := adds_mem ha hU c hc
   exact ⟨h1, h2, g, List.mem_cons_of_mem _ hg, h3⟩
  ·rename_i hn
   rcases List.mem_cons.1 hc with rfl | hc
   ·have hm := match_put U f
    refine ⟨hm.1, hm.2, f, List.mem_cons_self .., by simpa using hn, matchF_path U f, ?_⟩
    unfold matchF
    cases h : ofB f.2 U with
    | nil => simp [contP]
    | cons p t =>
     obtain ⟨g, h2, h3, h4, _⟩ := takeB_perm h
     have := fget_of_mem ha (hU g h2)
     rw [h3] at this
     simp [contP, this, h4]
   ·have hU2 : ∀ g ∈ (matchF U f).2, g ∈ a := fun g hg => hU g (by
     have hs : (matchF U f).2.Sublist U := by
      unfold matchF
      split
      ·exact .refl _
      ·exact takeB_sub U f.2
     exact hs.subset hg)
    obtain ⟨h1, h2, g, hg, h3⟩ := adds_mem ha hU2 c hc
    exact ⟨h1, h2, g, List.mem_cons_of_mem _ hg, h3⟩
theorem chg_mem {a b : List File} {c : Chg} (hc : c ∈ a.filterMap (chgF b)) : ∃ f ∈ a, ∃ y, fget b f.1 = some y ∧ y ≠ f.2 ∧ c = (3, f.1, emptyB, y) := by
 obtain ⟨f, hf, h⟩ := List.mem_filterMap.1 hc
 unfold chgF at h
 cases hg : fget b f.1 with
 | none => rw [hg] at h; cases h
 | some y =>
  rw [hg] at h
  by_cases hy : y = f.2
  ·simp [hy] at h
  ·simp only [hy, if_false, Option.some.injEq] at h
   exact ⟨f, hf, y, hg, hy, h.symm⟩
theorem chg_takes {a b : List File} : takesL (a.filterMap (chgF b)) = (a.filterMap (chgF b)).map fun c => c.2.1 := by
 have : ∀ l : List Chg, (∀ c ∈ l, c.1 = 3) → takesL l = l.map fun c => c.2.1 := by
  intro l hl
  induction l with
  | nil => rfl
  | cons x l ih =>
   have hx := hl x (List.mem_cons_self ..)
   unfold takesL at *
   rw [List.filterMap_cons, ih fun c hc => hl c (List.mem_cons_of_mem _ hc)]
   simp [takenP, hx]
 exact this _ fun c hc => by obtain ⟨f, _, y, _, _, rfl⟩ := chg_mem hc; rfl
theorem rm_takes (U : List File) : takesL (U.map fun g => rmC g.1) = U.map (·.1) := by
 induction U with
 | nil => rfl
 | cons g U ih =>
  unfold takesL at *
  rw [List.map_cons, List.filterMap_cons, ih]
  simp [takenP, rmC]
theorem rm_puts (U : List File) : putsL (U.map fun g => rmC g.1) = [] := by
 induction U with
 | nil => rfl
 | cons g U ih => rw [List.map_cons, puts_cons, ih]; rfl
theorem puts_all {l : List Chg} (h : ∀ c ∈ l, putB c = true) : putsL l = l.map fun c => c.2.1 := by
 unfold putsL
 rw [List.filter_eq_self.2 h]
theorem apply_diff {a b : List File} (wa : WF a) (wb : WF b) : applyP a (diffL a b) = (b, 0) := by
 have ha := wa.2.1
 have hb := wb.2.1
 generalize hG : goneL b a = G
 have hGa : ∀ g ∈ G, g ∈ a ∧ fget b g.1 = none := fun g hg => by
  rw [← hG] at hg
  have := List.mem_filter.1 hg
  exact ⟨this.1, by simpa using this.2⟩
 have hadd := fun c hc => adds_mem (a := a) ha (b := b) (U := G) (fun g hg => (hGa g hg).1) c hc
 have hT : diffL a b = a.filterMap (chgF b) ++ (addsF a b G).1 ++ (addsF a b G).2.map fun g => rmC g.1 := by unfold diffL; rw [hG]
 have hdist := diffL_dist ha hb
 -- what is taken, what is put
 have htk : (takesL (diffL a b)).Perm ((a.filterMap (chgF b)).map (fun c => c.2.1) ++ G.map (·.1)) := by
  rw [hT, takes_app, takes_app, chg_takes, rm_takes, List.append_assoc]
  exact (adds_takes a b G).append_left _
 have hcput : ∀ c ∈ a.filterMap (chgF b), putB c = true := fun c hc => by obtain ⟨f, _, y, _, _, rfl⟩ := chg_mem hc; rfl
 have hpt : putsL (diffL a b) = (a.filterMap (chgF b)).map (fun c => c.2.1) ++ (addsF a b G).1.map fun c => c.2.1 := by
  rw [hT, puts_app, puts_app, rm_puts, List.append_nil, puts_all hcput, puts_all fun c hc => (hadd c hc).1]
 have hCm : ∀ p, p ∈ (a.filterMap (chgF b)).map (fun c => c.2.1) ↔ ∃ x y, fget a p = some x ∧ fget b p = some y ∧ y ≠ x := fun p => by
  constructor
  ·intro h
   obtain ⟨c, hc, rfl⟩ := List.mem_map.1 h
   obtain ⟨f, hf, y, h1, h2, rfl⟩ := chg_mem hc
   exact ⟨f.2, y, fget_of_mem ha hf, h1, h2⟩
  ·rintro ⟨x, y, h1, h2, h3⟩
   refine List.mem_map.2 ⟨(3, p, emptyB, y), List.mem_filterMap.2 ⟨(p, x), fget_mem h1, ?_⟩, rfl⟩
   simp [chgF, h2, h3]
 have hGm : ∀ p, p ∈ G.map (·.1) ↔ (fget a p).isSome = true ∧ fget b p = none := fun p => by
  constructor
  ·intro h
   obtain ⟨g, hg, rfl⟩ := List.mem_map.1 h
   exact ⟨by rw [fget_of_mem ha (hGa g hg).1]; rfl, (hGa g hg).2⟩
  ·rintro ⟨h1, h2⟩
   obtain ⟨x, hx⟩ := Option.isSome_iff_exists.1 h1
   refine List.mem_map.2 ⟨(p, x), ?_, rfl⟩
   rw [← hG]
   exact List.mem_filter.2 ⟨fget_mem hx, by simp [h2]⟩
 have hAm : ∀ p, p ∈ (addsF a b G).1.map (fun c => c.2.1) ↔ fget a p = none ∧ (fget b p).isSome = true := fun p => by
  rw [addsF_paths]
  constructor
  ·intro h
   obtain ⟨f, hf, rfl⟩ := List.mem_map.1 h
   have := List.mem_filter.1 hf
   exact ⟨by simpa using this.2, by rw [fget_of_mem hb this.1]; rfl⟩
  ·rintro ⟨h1, h2⟩
   obtain ⟨x, hx⟩ := Option.isSome_iff_exists.1 h2
   exact List.mem_map.2 ⟨(p, x), List.mem_filter.2 ⟨fget_mem hx, by simp [h1]⟩, rfl⟩
 have hn1 : (takesL (diffL a b)).Nodup := by
  rw [htk.nodup_iff, List.nodup_append]
  refine ⟨?_, ?_, ?_⟩
  ·rw [chgF_paths]; exact (asc_nodup ha).sublist (List.filter_sublist.map _)
  ·rw [← hG]; exact (asc_nodup ha).sublist (List.filter_sublist.map _)
  ·intro p hp q hq e
   subst e
   obtain ⟨x, y, _, h2, _⟩ := (hCm p).1 hp
   rw [((hGm p).1 hq).2] at h2; cases h2
 have hn2 : (putsL (diffL a b)).Nodup := by
  rw [hpt, ← List.map_append]
  unfold PDist at hdist
  rw [hT, List.map_append] at hdist
  exact (List.nodup_append.1 hdist).1
 have hform : (diffL a b).all formedB = true := List.all_eq_true.2 fun c hc => by
  rw [hT] at hc
  rcases List.mem_append.1 hc with hc | hc
  ·rcases List.mem_append.1 hc with hc | hc
   ·obtain ⟨f, _, y, _, _, rfl⟩ := chg_mem hc; simp [formedB]
   ·exact (hadd c hc).2.1
  ·obtain ⟨g, _, rfl⟩ := List.mem_map.1 hc; simp [formedB, rmC]
 have hdb : distB (diffL a b) = true := decide_eq_true ⟨hn1, hn2⟩
 have hun : unknB a (diffL a b) = false := by
  unfold unknB
  rw [List.any_eq_false]
  intro p hp
  rcases List.mem_append.1 (htk.mem_iff.1 hp) with h | h
  ·obtain ⟨x, y, h1, _⟩ := (hCm p).1 h; simp [h1]
  ·have := ((hGm p).1 h).1
   cases hg : fget a p with
   | none => rw [hg] at this; cases this
   | some x => simp
 have hex : existsB a (diffL a b) = false := by
  unfold existsB
  rw [List.any_eq_false]
  intro c hc
  cases hpb : putB c with
  | false => simp
  | true =>
   have hcp : c.2.1 ∈ putsL (diffL a b) := putsL_mem.2 ⟨c, hc, hpb, rfl⟩
   rw [hpt] at hcp
   rcases List.mem_append.1 hcp with h | h
   ·have : inB (takesL (diffL a b)) c.2.1 = true := inB_iff.2 (htk.mem_iff.2 (List.mem_append_left _ h))
    simp [this]
   ·have := ((hAm _).1 h).1
    simp [this]
 have happ : applyL a (diffL a b) = b := by
  refine Asc.ext (apply_asc ha _) hb fun q => ?_
  by_cases hq : q ∈ putsL (diffL a b)
  ·obtain ⟨c, hc, hpb, rfl⟩ := putsL_mem.1 hq
   rw [fget_apply_some ha hn2 hc hpb]
   rw [hT] at hc
   rcases List.mem_append.1 hc with hc | hc
   ·rcases List.mem_append.1 hc with hc | hc
    ·obtain ⟨f, hf, y, h1, h2, rfl⟩ := chg_mem hc
     simp [contP, h1]
    ·obtain ⟨_, _, f, hf, h1, h2, h3⟩ := hadd c hc
     rw [h2, h3, fget_of_mem hb hf]
   ·obtain ⟨g, _, rfl⟩ := List.mem_map.1 hc; cases hpb
  ·rw [fget_apply_none ha hq]
   rw [hpt, List.mem_append, not_or] at hq
   have h1 := hq.1
   rw [hCm] at h1
   have h2 := hq.2
   rw [hAm] at h2
   cases hi : inB (takesL (diffL a b)) q with
   | true =>
    rw [if_pos rfl]
    rcases List.mem_append.1 (htk.mem_iff.1 (inB_iff.1 hi)) with h | h
    ·exact absurd ((hCm q).1 h) h1
    ·exact ((hGm q).1 h).2.symm
   | false =>
    rw [if_neg Bool.false_ne_true]
    have h3 : ¬ q ∈ G.map (·.1) := fun h => by
     have : inB (takesL (diffL a b)) q = true := inB_iff.2 (htk.mem_iff.2 (List.mem_append_right _ h))
     rw [hi] at this; cases this
    rw [hGm] at h3
    cases hx : fget a q with
    | none =>
     cases hy : fget b q with
     | none => rfl
     | some y => exact absurd ⟨hx, by rw [hy]; rfl⟩ h2
    | some x =>
     cases hy : fget b q with
     | none => exact absurd ⟨by rw [hx]; rfl, hy⟩ h3
     | some y =>
      by_cases e : y = x
      ·rw [e]
      ·exact absurd ⟨x, y, hx, hy, e⟩ h1
 unfold applyP
 rw [if_neg (by rw [hform, checkP_wf.2 wa]; simp), if_neg (by rw [hdb]; simp), if_neg (by rw [hun]; simp), if_neg (by rw [hex]; simp), happ, if_pos (checkP_wf.2 wb)]
theorem diffP_wf {a b : List File} (wa : WF a) (wb : WF b) : diffP a b = (sortC (diffL a b), 0) := by
 unfold diffP; rw [if_pos ⟨checkP_wf.2 wa, checkP_wf.2 wb⟩]
theorem apply_sorted {a b : List File} (wa : WF a) (wb : WF b) : applyP a (sortC (diffL a b)) = (b, 0) := by
 have hp : (sortC (diffL a b)).Perm (diffL a b) := List.mergeSort_perm _ _
 rw [applyP_perm hp, apply_diff wa wb]
theorem diff_self {a : List File} (ha : Asc a) : diffL a a = [] := by
 have h1 : a.filterMap (chgF a) = [] := by
  rw [List.filterMap_eq_nil_iff]
  intro f hf
  simp [chgF, fget_of_mem ha hf]
 have h2 : goneL a a = [] := by
  unfold goneL
  rw [List.filter_eq_nil_iff]
  intro f hf
  simp [fget_of_mem ha hf]
 have h3 : ∀ (b U : List File), (∀ f ∈ b, f ∈ a) → addsF a b U = ([], U) := by
  intro b
  induction b with
  | nil => intro U _; rfl
  | cons f b ih =>
   intro U hU
   simp only [addsF]
   rw [if_pos (by rw [fget_of_mem ha (hU f (List.mem_cons_self ..))]; rfl)]
   exact ih U fun g hg => hU g (List.mem_cons_of_mem _ hg)
 unfold diffL
 rw [h1, h2, h3 a [] fun f hf => hf]; rfl
theorem FilediffBack_ok {N : Nat} (hN : 3000000 < N) (l : List Int) : Ok (testgatelaw15_FilediffBack N l) fun b => b = true := by
 unfold testgatelaw15_FilediffBack
 refine Ok.bind (two_ok (by omega)) ?_
 rintro _ ⟨a', A, B, rfl, u1, u2, u3, u4, u5, u6⟩
 dsimp only
 have wA : WF A := u3.wf (by decide) (by omega)
 have wB : WF B := u4.wf (by decide) (by omega)
 have pA := small_paths (N := N) u3.small hN
 have pB := small_paths (N := N) u4.small hN
 have e1 := apply_sorted wA wB
 have e2 := apply_sorted wB wA
 have l1 : (sortC (diffL A B)).length ≤ 200 := by have := diffL_len wA.1 wB.1; simpa [sortC] using this
 have l2 : (sortC (diffL B A)).length ≤ 200 := by have := diffL_len wB.1 wA.1; simpa [sortC] using this
 have s1 : SmallC (sortC (diffL A B)) := fun c hc => diffL_small u3.small u4.small c (sortC_mem.1 hc)
 have s2 : SmallC (sortC (diffL B A)) := fun c hc => diffL_small u4.small u3.small c (sortC_mem.1 hc)
 rw [Diff_eq pA pB (by omega), diffP_wf wA wB]
 simp only [Option.bind_some]
 have ha := Apply_eq (N := N) (a := A) (l := sortC (diffL A B)) (by omega) pA (small_paths (apply_small u3.small s1) hN) (by omega)
 have hi := Invert_eq (N := N) (a := A) (l := sortC (diffL A B)) (by omega) pA (small_paths (apply_small u3.small s1) hN) (by omega)
 rw [e1] at ha
 have hi2 : invertP A (sortC (diffL A B)) = (sortC (diffL B A), 0) := by
  unfold invertP
  rw [e1]
  simp only [ne_eq, not_true_eq_false, if_false]
  rw [diffP_wf wB wA]
 rw [hi2] at hi
 rw [ha]
 simp only [Option.bind_some]
 rw [hi]
 simp only [Option.bind_some]
 have hb := Apply_eq (N := N) (a := B) (l := sortC (diffL B A)) (by omega) pB (small_paths (apply_small u4.small s2) hN) (by omega)
 rw [e2] at hb
 rw [hb]
 simp only [Option.bind_some]
 rw [Diff_eq pA pA (by omega), diffP_wf wA wA, diff_self wA.2.1]
 have e0 : sortC [] = [] := by simp [sortC]
 simp only [Option.bind_some, beq_self_eq_true, if_true]
 rw [refSame_eq (by omega) (by omega)]
 simp only [decide_true, Option.bind_some, if_true]
 rw [refSame_eq (by omega) (by omega)]
 simp only [decide_true, Option.bind_some, if_true]
 rw [fd_awake hN]
 rw [e0]
 exact Ok.mk rfl
theorem testgatelaw15_FilediffBack_true (l : List Int) (_gl : l.length * 8 ≤ reachBytes ∧ ∀ x ∈ l, (Lit.int .i64 x).wf = true) : ∃ N, testgatelaw15_FilediffBack N l = some true := by
 refine ⟨4000000, ?_⟩
 obtain ⟨b, h1, rfl⟩ := FilediffBack_ok (N := 4000000) (by decide) l
 exact h1
end Go.Proofs.YtgggihpbhmbjaaaGreatDoor
