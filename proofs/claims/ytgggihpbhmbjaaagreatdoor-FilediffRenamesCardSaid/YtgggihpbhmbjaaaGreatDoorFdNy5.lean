/- FilediffRenames: moved files are so many renames. No condition. -/
import Derived.Test.YtgggihpbhmbjaaaGreatDoorFdMy5
namespace Go.Proofs.YtgggihpbhmbjaaaGreatDoor
open Go Go.Dc Go.Sort Go.Proofs
def nwB : ByteArray := ⟨#[110, 101, 119, 47]⟩
def nw (p : ByteArray) : ByteArray := nwB ++ p
theorem nw_inj {p q : ByteArray} (h : nw p = nw q) : p = q := by
 have h1 : (nwB ++ p).data.toList = (nwB ++ q).data.toList := by unfold nw at h; rw [h]
 simp only [ByteArray.data_append, Array.toList_append] at h1
 have h2 := List.append_cancel_left h1
 exact Go.WideShapes.bytes_inj (by rw [h2])
theorem nw_path : ((srcL ++ datL).all fun p => pathB (nw p).data.toList) = true := by kernel_rfl
theorem nw_new : ((srcL ++ datL).all fun p => (srcL ++ datL).all fun q => !decide (nw p = q)) = true := by kernel_rfl
theorem nw_cat {p : ByteArray} (h : p.size ≤ 100) : catB (⟨#[110, 101, 119, 47]⟩ : ByteArray) p = some (nw p) := by
 refine catB_lit rfl ?_
 have : ByteArray.size (⟨#[110, 101, 119, 47]⟩ : ByteArray) = 4 := rfl
 omega
section
variable {a : List File}
theorem nw_ok (hm : Made a) {f : File} (hf : f ∈ a) : pathB (nw f.1).data.toList = true := List.all_eq_true.1 nw_path _ (hm.2 f hf).1
theorem nw_ne (hm : Made a) {f g : File} (hf : f ∈ a) (hg : g ∈ a) : nw f.1 ≠ g.1 := by
 have := List.all_eq_true.1 (List.all_eq_true.1 nw_new _ (hm.2 f hf).1) _ (hm.2 g hg).1
 simpa using this
structure Mv (a S b : List File) : Prop where
 asc : Asc b
 wf : WF b
 sub : ∀ g ∈ S, g ∈ a ∧ ∀ g' ∈ a, g'.2 = g.2 → g'.1 = g.1
 nod : (S.map (·.1)).Nodup
 new : ∀ g ∈ S, fget b (nw g.1) = some g.2
 old : ∀ q, (∀ g ∈ S, nw g.1 ≠ q) → fget b q = if inB (S.map (·.1)) q = true then none else fget a q
theorem Mv.move (hm : Made a) {S b : List File} (h : Mv a S b) {f : File} (hf : f ∈ a) (hS : f.1 ∉ S.map (·.1)) (hu : ∀ g' ∈ a, g'.2 = f.2 → g'.1 = f.1) (hl : b.length ≤ 60) :
  moveP b f.1 (nw f.1) = (fput (fdel b f.1) (nw f.1) f.2, 0) ∧ Mv a (S ++ [f]) (fput (fdel b f.1) (nw f.1) f.2) := by
 have hsz := (hm.2 f hf).2
 have hp := nw_ok hm hf
 have hn1 : ∀ g ∈ S, nw g.1 ≠ f.1 := fun g hg => nw_ne hm (h.sub g hg).1 hf
 have hn2 : ∀ g ∈ S, nw g.1 ≠ nw f.1 := fun g hg e => hS (by rw [← nw_inj e]; exact List.mem_map_of_mem hg)
 have hg1 : fget b f.1 = some f.2 := by
  rw [h.old _ hn1, if_neg (by rw [inB_iff]; exact hS), fget_of_mem hm.1 hf]
 have hg2 : fget b (nw f.1) = none := by
  rw [h.old _ hn2]
  split
  ·rfl
  ·cases hx : fget a (nw f.1) with
   | none => rfl
   | some x => exact absurd rfl (nw_ne hm hf (fget_mem hx))
 have hdl : (fdel b f.1).length ≤ b.length := List.length_filter_le _ _
 have hpl := fput_length (fdel b f.1) (nw f.1) f.2
 have hasc := (h.asc.del f.1).put (nw f.1) f.2
 have hget : ∀ q, fget (fput (fdel b f.1) (nw f.1) f.2) q = if nw f.1 = q then some f.2 else if f.1 = q then none else fget b q := fun q => by
  rw [fget_put (h.asc.del _), fget_del]
 refine ⟨?_, hasc, (h.wf.del f.1).put hp (by omega) (by omega), ?_, ?_, ?_, ?_⟩
 ·unfold moveP
  rw [if_neg (by rw [checkP_wf.2 h.wf]; simp), if_neg (by rw [hp]; simp), hg1]
  simp only
  rw [hg2]; rfl
 ·intro g hg
  rcases List.mem_append.1 hg with hg | hg
  ·exact h.sub g hg
  ·simp only [List.mem_cons, List.not_mem_nil, or_false] at hg; subst hg; exact ⟨hf, hu⟩
 ·rw [List.map_append, List.nodup_append]
  refine ⟨h.nod, by simp, ?_⟩
  intro x hx y hy e
  simp only [List.map_cons, List.map_nil, List.mem_cons, List.not_mem_nil, or_false] at hy
  subst hy; subst e
  exact hS hx
 ·intro g hg
  rw [hget]
  rcases List.mem_append.1 hg with hg | hg
  ·rw [if_neg (fun e => hn2 g hg e.symm), if_neg (fun e => hn1 g hg e.symm)]
   exact h.new g hg
  ·simp only [List.mem_cons, List.not_mem_nil, or_false] at hg; subst hg; rw [if_pos rfl]
 ·intro q hq
  rw [hget, if_neg (hq f (List.mem_append_right _ (List.mem_singleton_self _)))]
  have h1 : inB ((S ++ [f]).map (·.1)) q = (inB (S.map (·.1)) q || decide (f.1 = q)) := by rw [List.map_append]; exact inB_app _ _ _
  rw [h1]
  by_cases e : f.1 = q
  ·rw [if_pos e]; simp [e]
  ·rw [if_neg e, h.old q fun g hg => hq g (List.mem_append_left _ hg)]
   simp [e]
theorem adds_moved (hm : Made a) : ∀ (b U : List File), Asc b → (∀ f ∈ b, fget a f.1 = none → ∃ g ∈ U, f = (nw g.1, g.2)) → (∀ g ∈ U, g ∈ a ∧ ∀ g' ∈ a, g'.2 = g.2 → g'.1 = g.1) → ∀ c ∈ (addsF a b U).1, c.1 = 4 ∧ c.2.1 = nw c.2.2.1 ∧ ∃ g ∈ a, c.2.2.1 = g.1
 | [], U, _, _, _, c, hc => by cases hc
 | f :: b, U, hb, h1, h2, c, hc => by
  obtain ⟨hb1, hb2⟩ := List.pairwise_cons.1 hb
  simp only [addsF] at hc
  by_cases hn : (fget a f.1).isSome = true
  ·rw [if_pos hn] at hc
   exact adds_moved hm b U hb2 (fun g hg => h1 g (List.mem_cons_of_mem _ hg)) h2 c hc
  ·rw [if_neg hn] at hc
   have hnone : fget a f.1 = none := by simpa using hn
   obtain ⟨g, hgU, rfl⟩ := h1 f (List.mem_cons_self ..) hnone
   have hof : ∃ t, ofB g.2 U = g.1 :: t := by
    cases ho : ofB g.2 U with
    | nil =>
     have : g.1 ∈ ofB g.2 U := List.mem_map_of_mem (List.mem_filter.2 ⟨hgU, by simp⟩)
     rw [ho] at this; cases this
    | cons p t =>
     obtain ⟨g2, e1, e2, e3, _⟩ := takeB_perm ho
     have := (h2 g hgU).2 g2 (h2 g2 e1).1 e3
     exact ⟨t, by rw [← e2, this]⟩
   obtain ⟨t, ho⟩ := hof
   obtain ⟨g2, e1, e2, e3, e4⟩ := takeB_perm ho
   have hg2 : g2 = g := by
    have := fget_of_mem hm.1 (h2 g2 e1).1
    rw [e2, fget_of_mem hm.1 (h2 g hgU).1] at this
    exact Prod.ext e2 (Option.some.inj this).symm
   subst hg2
   have em : matchF U (nw g2.1, g2.2) = ((4, nw g2.1, g2.1, emptyB), takeB U g2.2) := by unfold matchF; rw [ho]
   rw [em] at hc
   rcases List.mem_cons.1 hc with rfl | hc
   ·exact ⟨rfl, rfl, g2, (h2 g2 hgU).1, rfl⟩
   ·refine adds_moved hm b (takeB U g2.2) hb2 (fun f hf hfn => ?_) (fun g hg => h2 g ((takeB_sub U g2.2).subset hg)) c hc
    obtain ⟨g3, hg3, rfl⟩ := h1 f (List.mem_cons_of_mem _ hf) hfn
    have hne : g3 ≠ g2 := fun e => by
     have := blt_ne (hb1 _ hf)
     rw [e] at this
     exact this rfl
    refine ⟨g3, ?_, rfl⟩
    rcases List.mem_cons.1 (e4.mem_iff.1 hg3) with e | e
    ·exact absurd e hne
    ·exact e
theorem len_of_same {A B : List ByteArray} (h1 : A.Nodup) (h2 : B.Nodup) (h : ∀ p, p ∈ A ↔ p ∈ B) : A.length = B.length := ((List.perm_ext_iff_of_nodup h1 h2).2 h).length_eq
theorem takes_four : ∀ {l : List Chg}, (∀ c ∈ l, c.1 = 4) → (takesL l).length = l.length
 | [], _ => rfl
 | c :: l, h => by
  have ih := takes_four (l := l) fun c hc => h c (List.mem_cons_of_mem _ hc)
  have h4 := h c (List.mem_cons_self ..)
  have e1 : takesL (c :: l) = c.2.2.1 :: takesL l := by unfold takesL; rw [List.filterMap_cons]; simp [takenP, h4]
  rw [e1, List.length_cons, List.length_cons, ih]
theorem moved_diff (hm : Made a) {S b : List File} (h : Mv a S b) : (diffL a b).length = S.length ∧ ∀ c ∈ diffL a b, c.1 = 4 ∧ c.2.1 = nw c.2.2.1 ∧ ∃ g ∈ a, c.2.2.1 = g.1 := by
 have hin : ∀ f ∈ a, fget b f.1 = if inB (S.map (·.1)) f.1 = true then none else some f.2 := fun f hf => by
  rw [h.old _ fun g hg => nw_ne hm (h.sub g hg).1 hf, fget_of_mem hm.1 hf]
 have hC : a.filterMap (chgF b) = [] := by
  rw [List.filterMap_eq_nil_iff]
  intro f hf
  unfold chgF
  rw [hin f hf]
  split
  ·rename_i e
   split at e
   ·cases e
   ·simp only [Option.some.injEq] at e; rw [if_pos e.symm]
  ·rfl
 have hGm : ∀ g, g ∈ goneL b a ↔ g ∈ a ∧ g.1 ∈ S.map (·.1) := fun g => by
  unfold goneL
  rw [List.mem_filter]
  constructor
  ·rintro ⟨h1, h2⟩
   rw [hin g h1] at h2
   refine ⟨h1, ?_⟩
   by_cases e : inB (S.map (·.1)) g.1 = true
   ·exact inB_iff.1 e
   ·rw [if_neg e] at h2; simp at h2
  ·rintro ⟨h1, h2⟩
   refine ⟨h1, ?_⟩
   rw [hin g h1, if_pos (inB_iff.2 h2)]; rfl
 have hnew : ∀ f ∈ b, fget a f.1 = none → ∃ g ∈ goneL b a, f = (nw g.1, g.2) := fun f hf hn => by
  have hg := fget_of_mem h.asc hf
  by_cases hx : ∀ g ∈ S, nw g.1 ≠ f.1
  ·rw [h.old _ hx, hn] at hg
   split at hg <;> cases hg
  ·obtain ⟨g, hgx⟩ := Classical.not_forall.1 hx
   obtain ⟨hgS, he⟩ := Classical.not_imp.1 hgx
   have he : nw g.1 = f.1 := Decidable.of_not_not he
   have h1 := h.new g hgS
   rw [he, hg] at h1
   refine ⟨g, (hGm g).2 ⟨(h.sub g hgS).1, List.mem_map_of_mem hgS⟩, ?_⟩
   exact Prod.ext he.symm (Option.some.inj h1)
 have hGu : ∀ g ∈ goneL b a, g ∈ a ∧ ∀ g' ∈ a, g'.2 = g.2 → g'.1 = g.1 := fun g hg => by
  obtain ⟨h1, h2⟩ := (hGm g).1 hg
  obtain ⟨g3, h3, h4⟩ := List.mem_map.1 h2
  have e : g3.2 = g.2 := by
   have h5 := fget_of_mem hm.1 (h.sub g3 h3).1
   rw [h4, fget_of_mem hm.1 h1] at h5
   exact (Option.some.inj h5).symm
  refine ⟨h1, fun g' hg' hb => ?_⟩
  rw [← h4]
  exact (h.sub g3 h3).2 g' hg' (by rw [hb, e])
 have hadd := adds_moved hm b (goneL b a) h.asc hnew hGu
 have hGl : (goneL b a).length = S.length := by
  have := len_of_same (A := (goneL b a).map (·.1)) (B := S.map (·.1)) ((asc_nodup hm.1).sublist (List.filter_sublist.map _)) h.nod (fun p => by
   constructor
   ·intro hp
    obtain ⟨g, hg, rfl⟩ := List.mem_map.1 hp
    exact ((hGm g).1 hg).2
   ·intro hp
    obtain ⟨g, hg, rfl⟩ := List.mem_map.1 hp
    exact List.mem_map_of_mem ((hGm g).2 ⟨(h.sub g hg).1, hp⟩))
  simpa using this
 have hAl : (addsF a b (goneL b a)).1.length = S.length := by
  have e1 : (addsF a b (goneL b a)).1.length = ((b.filter fun f => (fget a f.1).isNone).map (·.1)).length := by
   rw [← addsF_paths a b (goneL b a), List.length_map]
  rw [e1]
  have := len_of_same (A := (b.filter fun f => (fget a f.1).isNone).map (·.1)) (B := S.map fun g => nw g.1) ((asc_nodup h.asc).sublist (List.filter_sublist.map _)) (by
    have := h.nod
    rw [List.Nodup, List.pairwise_map] at this ⊢
    exact this.imp fun hne e => hne (nw_inj e)) (fun p => by
   constructor
   ·intro hp
    obtain ⟨f, hf, rfl⟩ := List.mem_map.1 hp
    have hf := List.mem_filter.1 hf
    obtain ⟨g, hg, e⟩ := hnew f hf.1 (by simpa using hf.2)
    rw [e]
    obtain ⟨g3, h3, h4⟩ := List.mem_map.1 ((hGm g).1 hg).2
    exact List.mem_map.2 ⟨g3, h3, by rw [h4]⟩
   ·intro hp
    obtain ⟨g, hg, rfl⟩ := List.mem_map.1 hp
    refine List.mem_map.2 ⟨(nw g.1, g.2), List.mem_filter.2 ⟨fget_mem (h.new g hg), ?_⟩, rfl⟩
    cases hx : fget a (nw g.1) with
    | none => simp [hx]
    | some x => exact absurd rfl (nw_ne hm (h.sub g hg).1 (fget_mem hx)))
  simpa using this
 have hleft : (addsF a b (goneL b a)).2 = [] := by
  have hp := (adds_takes a b (goneL b a)).length_eq
  rw [List.length_append, List.length_map, List.length_map, takes_four fun c hc => (hadd c hc).1] at hp
  exact List.eq_nil_of_length_eq_zero (by omega)
 unfold diffL
 rw [hC, hleft]
 simp only [List.nil_append, List.map_nil, List.append_nil]
 exact ⟨hAl, hadd⟩
end
def twB (a : List File) (f : File) : Bool := a.any fun g => !decide (g.1 = f.1) && decide (g.2 = f.2)
theorem twf_loop {N : Nat} {y1 : (List Int × Int) × List File} {f : File} (hl : y1.2.length < 1000000) (hN : y1.2.length < N) : loopM (testgatelaw15_FilediffRenames_L2 N y1 f) N (false, 0) = some (twB y1.2 f) := by
 have h := list_loop0 (L := y1.2) (fun (t : Bool) i => (t, (i : Int))) (f := testgatelaw15_FilediffRenames_L2 N y1 f) (fun t g => (.inl (t || (!decide (g.1 = f.1) && decide (g.2 = f.2))) : Bool ⊕ Bool)) (fun t => t) (fun _ _ => True) (fun t i hi _ => by
   have hc : ((i : Int) < (y1.2.length : Int)) := by omega
   simp only [testgatelaw15_FilediffRenames_L2, hc, decide_true, if_true, idx_nat hi, Option.bind_some, wi1 (show i < 1000000 by omega), eqB]
   cases t <;> by_cases h1 : y1.2[i].1 = f.1 <;> simp [h1]) (fun _ _ _ _ _ _ => trivial) (fun t _ => by
   have hc : ¬ ((y1.2.length : Int) < (y1.2.length : Int)) := by omega
   simp only [testgatelaw15_FilediffRenames_L2, hc, decide_false, Bool.false_eq_true, if_false]) (t := false) hN trivial
 rw [show ((0 : Nat) : Int) = 0 from rfl] at h
 have hr := run_fold (step := fun (t : Bool) (g : File) => (.inl (t || (!decide (g.1 = f.1) && decide (g.2 = f.2))) : Bool ⊕ Bool)) (fin := fun t => t) (fun (t : Bool) (g : File) => t || (!decide (g.1 = f.1) && decide (g.2 = f.2))) (fun _ _ => rfl) y1.2 false
 rw [h, hr]
 congr 1
 have : ∀ (L : List File) (t : Bool), L.foldl (fun (t : Bool) (g : File) => t || (!decide (g.1 = f.1) && decide (g.2 = f.2))) t = (t || twB L f) := by
  intro L
  induction L with
  | nil => intro t; simp [twB]
  | cons x L ih =>
   intro t
   rw [List.foldl_cons, ih]
   simp only [twB, List.any_cons, Bool.or_assoc]
 rw [this]; rfl
theorem tw_false {a : List File} {f : File} (h : twB a f = false) : ∀ g ∈ a, g.2 = f.2 → g.1 = f.1 := fun g hg e => by
 have := List.any_eq_false.1 h g hg
 by_cases e1 : g.1 = f.1
 ·exact e1
 ·simp [e1, e] at this
theorem FilediffRenames_ok {N : Nat} (hN : 3000000 < N) (l : List Int) : Ok (testgatelaw15_FilediffRenames N l) fun b => b = true := by
 unfold testgatelaw15_FilediffRenames
 refine Ok.bind (Revision_ok (l := l) (a := 0) (by omega) (by decide) (by decide)) ?_
 rintro _ ⟨a1, A, rfl, u1, u2, u3, u4⟩
 dsimp only
 have wA : WF A := u3.wf (by omega)
 have pA := small_paths (N := N) u3.e.small hN
 refine Ok.loop (fun st => ∃ (i : Nat) (S b : List File) (a' : Int), st = ((S.length : Int), (i : Int), b, l, a') ∧ i ≤ A.length ∧ Mv A S b ∧ (∀ g ∈ S, g ∈ A.take i) ∧ S.length ≤ i ∧ b.length ≤ 7 + i ∧ 0 ≤ a' ∧ a' ≤ 1000000 + i) (fun st => A.length - st.2.1.toNat) (fun o => ∃ (S b : List File) (a' : Int), o = ((S.length : Int), b, l, a') ∧ Mv A S b ∧ b.length ≤ 20 ∧ S.length ≤ 7) ?_ ?_ (by dsimp only; omega) ?_
 ·rintro _ ⟨i, S, b, a', rfl, k1, k2, k3, k4, k5, k6, k7⟩
  unfold testgatelaw15_FilediffRenames_L1
  dsimp only
  by_cases hi : i < A.length
  ·have hc : ((i : Int) < (A.length : Int)) := by omega
   rw [if_pos (by simpa using hc), idx_nat hi]
   simp only [Option.bind_some]
   rw [twf_loop (y1 := ((l, a1), A)) (by dsimp only; omega) (by dsimp only; omega)]
   simp only [Option.bind_some]
   have htk : ∀ g ∈ S, g ∈ A.take (i + 1) := fun g hg => by rw [take_snoc hi]; exact List.mem_append_left _ (k3 g hg)
   have hfn : A[i].1 ∉ S.map (·.1) := fun e => by
    obtain ⟨g, hg, e⟩ := List.mem_map.1 e
    have hn := asc_nodup wA.2.1
    have ht : (A.take (i + 1)).map (·.1) = (A.take i).map (·.1) ++ [A[i].1] := by rw [take_snoc hi, List.map_append]; rfl
    have hn2 : ((A.take (i + 1)).map (·.1)).Nodup := hn.sublist ((List.take_sublist _ _).map _)
    rw [ht, List.nodup_append] at hn2
    exact hn2.2.2 _ (List.mem_map_of_mem (k3 g hg)) _ (List.mem_singleton_self _) e
   refine Ok.assoc ?_
   refine Ok.bind (P := fun o : Bool × List Int × Int => ∃ b2 a5, o = (b2, l, a5) ∧ 0 ≤ a5 ∧ a5 ≤ a' + 1 ∧ (b2 = false → twB A A[i] = false)) ?_ ?_
   ·refine Ok.ite (fun _ => Ok.mk ⟨_, _, rfl, k6, by omega, fun h => by cases h⟩) fun ht => ?_
    refine Ok.chance k6 (by omega) (by decide) (by decide) fun c => ?_
    exact Ok.mk ⟨_, _, rfl, by dsimp only; omega, by dsimp only; omega, fun _ => by simpa using ht⟩
   ·rintro _ ⟨b2, a5, rfl, b3, b4, b5⟩
    dsimp only
    refine Ok.iteb (fun _ => ?_) fun hb2 => ?_
    ·simp only [Option.bind_some, wi1 (show i < 1000000 by omega)]
     exact Ok.mk ⟨⟨i + 1, S, b, a5, rfl, by omega, k2, htk, by omega, by omega, by omega, by omega⟩, by simp only [Int.toNat_natCast]; omega⟩
    ·have htw := b5 (by simpa using hb2)
     have hfm : A[i] ∈ A := List.getElem_mem hi
     have hps := path_small' (u3.path hfm)
     obtain ⟨hmv, hM⟩ := k2.move u3 hfm hfn (tw_false htw) (by omega)
     rw [nw_cat (by omega)]
     simp only [Option.bind_some]
     rw [refMove_eq _ _ (by omega), hmv]
     have w : IntKind.wrap .i64 ((S.length : Int) + 1) = ((S.length + 1 : Nat) : Int) := by rw [wi64 (by omega) (by omega)]; omega
     simp only [Option.bind_some, beq_self_eq_true, if_true, wi1 (show i < 1000000 by omega), w]
     refine Ok.mk ⟨⟨i + 1, S ++ [A[i]], _, a5, by rw [List.length_append]; rfl, by omega, hM, fun g hg => ?_, by simp only [List.length_append, List.length_cons, List.length_nil]; omega, ?_, by omega, by omega⟩, by simp only [Int.toNat_natCast]; omega⟩
     ·rw [take_snoc hi]
      rcases List.mem_append.1 hg with hg | hg
      ·exact List.mem_append_left _ (k3 g hg)
      ·exact List.mem_append_right _ hg
     ·have h1 := fput_length (fdel b A[i].1) (nw A[i].1) A[i].2
      have h2 : (fdel b A[i].1).length ≤ b.length := List.length_filter_le _ _
      omega
  ·rw [if_neg (by simpa using hi)]
   exact Ok.mk ⟨S, b, a', rfl, k2, by omega, by omega⟩
 ·exact ⟨0, [], A, a1, rfl, Nat.zero_le _, ⟨wA.2.1, wA, by simp, by simp, by simp, fun q _ => by simp [inB]⟩, by simp, by simp, by omega, by omega, by omega⟩
 ·rintro _ ⟨S, b, a', rfl, hM, hbl, hSl⟩
  dsimp only
  have pb : PathsOk N b := small_paths (fun f hf => by have := path_small' (hM.wf.2.2 f hf).1; omega) hN
  rw [Diff_eq pA pb (by omega), diffP_wf wA hM.wf]
  obtain ⟨hlen, hall⟩ := moved_diff u3 hM
  have hsl : (sortC (diffL A b)).length = S.length := by rw [← hlen]; simp [sortC]
  simp only [Option.bind_some, bne_self_eq_false, Bool.false_eq_true, if_false, hsl]
  have hloop := list_loop0 (L := sortC (diffL A b)) (fun (_ : Unit) i => (i : Int)) (f := testgatelaw15_FilediffRenames_L3 N (sortC (diffL A b), 0)) (fun _ _ => (.inl () : Unit ⊕ (Unit ⊕ Bool))) (fun _ => .inl ()) (fun _ _ => True) (fun t i hi _ => by
   have hc : ((i : Int) < ((sortC (diffL A b)).length : Int)) := by omega
   obtain ⟨c1, c2, g, hg, c3⟩ := hall _ (sortC_mem.1 (List.getElem_mem hi))
   have hps := path_small' (u3.path hg)
   have hb4 : ((sortC (diffL A b))[i].1 != 4) = false := by simp [c1]
   simp only [testgatelaw15_FilediffRenames_L3, hc, decide_true, if_true, idx_nat hi, Option.bind_some, hb4, Bool.false_eq_true, if_false]
   rw [nw_cat (by rw [c3]; omega)]
   have : (!((sortC (diffL A b))[i].2.1.toList == (nw (sortC (diffL A b))[i].2.2.1).toList)) = false := by rw [c2]; simp
   simp only [Option.bind_some, this, Bool.false_eq_true, if_false, wi1 (show i < 1000000 by omega)]) (fun _ _ _ _ _ _ => trivial) (fun t _ => by
   have hc : ¬ (((sortC (diffL A b)).length : Int) < ((sortC (diffL A b)).length : Int)) := by omega
   simp only [testgatelaw15_FilediffRenames_L3, hc, decide_false, Bool.false_eq_true, if_false]) (M := N) (t := ()) (by omega) trivial
  have hrun : ∀ L : List Chg, run (fun _ _ => (.inl () : Unit ⊕ (Unit ⊕ Bool))) (fun _ => .inl ()) L () = .inl () := by
   intro L
   induction L with
   | nil => rfl
   | cons x L ih => exact ih
  rw [hrun] at hloop
  rw [show loopM (testgatelaw15_FilediffRenames_L3 N (sortC (diffL A b), 0)) N 0 = _ from hloop]
  simp only [Option.bind_some]
  rw [fd_awake hN]
  exact Ok.mk rfl
theorem testgatelaw15_FilediffRenames_true (l : List Int) (_gl : l.length * 8 ≤ reachBytes ∧ ∀ x ∈ l, (Lit.int .i64 x).wf = true) : ∃ N, testgatelaw15_FilediffRenames N l = some true := by
 refine ⟨4000000, ?_⟩
 obtain ⟨b, h1, rfl⟩ := FilediffRenames_ok (N := 4000000) (by decide) l
 exact h1
end Go.Proofs.YtgggihpbhmbjaaaGreatDoor
