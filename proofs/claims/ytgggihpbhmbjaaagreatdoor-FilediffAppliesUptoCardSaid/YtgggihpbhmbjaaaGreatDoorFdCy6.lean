/- The reference's list of all changes is the program's. No condition. -/
import Derived.Test.YtgggihpbhmbjaaaGreatDoorFdBy6
namespace Go.Proofs.YtgggihpbhmbjaaaGreatDoor
open Go Go.Dc Go.Sort Go.Proofs
def qKf (out S : List Chg) : List Chg := S.foldl insC out
theorem qKh (out : List Chg) (x : Chg) (S : List Chg) : qKf out (x :: S) = qKf (insC out x) S := rfl
theorem qNg : ∀ (S out : List Chg), (qKf out S).Perm (out ++ S)
 | [], out => by simp [qKf]
 | x :: S, out => by
  rw [qKh]
  refine (qNg S _).trans ?_
  refine ((insC_perm out x).append_right S).trans ?_
  exact List.perm_middle.symm
theorem insAll_len (S out : List Chg) : (qKf out S).length = out.length + S.length := by rw [(qNg S out).length_eq, List.length_append]
theorem insAll_asc : ∀ {S out : List Chg}, PAsc out → PDist (out ++ S) → PAsc (qKf out S)
 | [], out, h, _ => h
 | x :: S, out, h, hd => by
  rw [qKh]
  have hd' : PDist (x :: (out ++ S)) := hd.perm List.perm_middle
  have hn : ∀ y ∈ out, x.2.1 ≠ y.2.1 := fun y hy e => by
   unfold PDist at hd'
   rw [List.map_cons, List.nodup_cons] at hd'
   exact hd'.1 (by rw [e]; exact List.mem_map_of_mem (f := fun x : Chg => x.2.1) (List.mem_append_left _ hy))
  refine insAll_asc (insC_asc h hn) ?_
  exact PDist.perm hd ((List.perm_middle).trans ((insC_perm out x).symm.append_right S))
def unus : List File → List Bool → List File
 | g :: gs, u :: us => if u = true then unus gs us else g :: unus gs us
 | _, _ => []
theorem unus_rep : ∀ G : List File, unus G (List.replicate G.length false) = G
 | [] => rfl
 | g :: G => by
  have := unus_rep G
  simp [unus, List.replicate_succ, this]
def firstI : List File → List Bool → ByteArray → Option Nat
 | g :: gs, u :: us, B => if u = false ∧ g.2 = B then some 0 else (firstI gs us B).map (· + 1)
 | _, _, _ => none
theorem first_spec : ∀ (G : List File) (us : List Bool) (B : ByteArray), us.length = G.length →
  match firstI G us B with
  | none => ofB B (unus G us) = []
  | some j => ∃ hj : j < G.length, (∃ l, ofB B (unus G us) = G[j].1 :: l) ∧ unus G (us.set j true) = takeB (unus G us) B
 | [], us, B, h => by cases us with | nil => rfl | cons u us => simp at h
 | g :: G, [], B, h => by simp at h
 | g :: G, u :: us, B, h => by
  have ih := first_spec G us B (by simpa using h)
  simp only [firstI]
  by_cases hc : u = false ∧ g.2 = B
  ·rw [if_pos hc]
   obtain ⟨rfl, rfl⟩ := hc
   simp only
   refine ⟨by simp, ⟨ofB g.2 (unus G us), by simp [unus, ofB]⟩, ?_⟩
   simp [unus, takeB]
  ·rw [if_neg hc]
   cases hf : firstI G us B with
   | none =>
    rw [hf] at ih
    simp only [Option.map_none]
    cases u with
    | true => simp only [unus, if_true]; exact ih
    | false =>
     have hg : ¬ g.2 = B := fun e => hc ⟨rfl, e⟩
     simp only [unus, Bool.false_eq_true, if_false]
     unfold ofB at *
     simpa [hg] using ih
   | some j =>
    rw [hf] at ih
    obtain ⟨hj, ⟨l, hl⟩, hu⟩ := ih
    simp only [Option.map_some]
    refine ⟨by simp only [List.length_cons]; omega, ⟨l, ?_⟩, ?_⟩
    ·cases u with
     | true => simp only [unus, if_true, List.getElem_cons_succ]; exact hl
     | false =>
      have hg : ¬ g.2 = B := fun e => hc ⟨rfl, e⟩
      simp only [unus, Bool.false_eq_true, if_false, List.getElem_cons_succ]
      unfold ofB at *
      simpa [hg] using hl
    ·cases u with
     | true => simp only [List.set_cons_succ, unus, if_true]; exact hu
     | false =>
      have hg : ¬ g.2 = B := fun e => hc ⟨rfl, e⟩
      simp only [List.set_cons_succ, unus, Bool.false_eq_true, if_false]
      unfold takeB at *
      rw [List.eraseP_cons_of_neg (by simpa using hg), hu]
theorem rgone_loop {N : Nat} {a b : List File} (hb : WF b) (ha : a.length ≤ 64) (hN : 100 < N) : ∀ (d i Mf : Nat), i + d = a.length → d < Mf → qBf (qEd N a b) Mf (qEw b (a.take i), (i : Int)) = some (qEw b a)
 | _, _, 0, _, h => absurd h (Nat.not_lt_zero _)
 | d, i, Mf + 1, h1, h2 => by
  simp only [qBf, qEd]
  cases d with
  | zero =>
   have hc : ¬ ((i : Int) < (a.length : Int)) := by omega
   simp only [hc, decide_false, Bool.false_eq_true, if_false, Option.bind_some]
   rw [List.take_of_length_le (by omega)]
  | succ d =>
   have hi : i < a.length := by omega
   have hc : ((i : Int) < (a.length : Int)) := by omega
   have w2 : IntKind.wrap .i64 ((i : Int) + 1) = ((i + 1 : Nat) : Int) := by rw [wi64 (by omega) (by omega)]; omega
   have ht : a.take (i + 1) = a.take i ++ [a[i]] := List.take_succ_eq_append_getElem hi
   have hl2 := goneL_le b (a.take i)
   have hl3 : (a.take i).length ≤ 64 := by simp only [List.length_take]; omega
   have ih := rgone_loop (N := N) hb ha hN d (i + 1) Mf (by omega) (by omega)
   simp only [hc, decide_true, if_true, qCe hi, Option.bind_some]
   rw [reffind_wf _ hb hN]
   cases hg : fget b a[i].1 with
   | none =>
    have e1 : qEw b (a.take (i + 1)) = qEw b (a.take i) ++ [a[i]] := by
     unfold qEw; rw [ht, List.filter_append]; simp [hg]
    simp only [findR, Option.bind_some, Bool.not_false, if_true]
    rw [qCn (by simp only [List.length_cons, List.length_nil]; omega) (by decide)]
    simp only [Option.bind_some, w2]
    rw [e1] at ih; exact ih
   | some y =>
    have e1 : qEw b (a.take (i + 1)) = qEw b (a.take i) := by
     unfold qEw; rw [ht, List.filter_append]; simp [hg]
    simp only [findR, Option.bind_some, Bool.not_true, Bool.false_eq_true, if_false, w2]
    rw [e1] at ih; exact ih
theorem rfind_loop {N : Nat} {G : List File} {s2 : List Chg × Int × List Bool} {f : File} (hG : G.length ≤ 64) (hu : s2.2.2.length = G.length) : ∀ (d i Mf : Nat), i + d = G.length → d < Mf →
  qBf (qEi N G s2 f) Mf (i : Int) = some (match firstI (G.drop i) (s2.2.2.drop i) f.2 with
   | none => (1, qEj, f.2, s2.2.2)
   | some j => (4, (G.getD (i + j) (qEj, qEj)).1, qEj, s2.2.2.set (i + j) true))
 | _, _, 0, _, h => absurd h (Nat.not_lt_zero _)
 | d, i, Mf + 1, h1, h2 => by
  simp only [qBf, qEi]
  cases d with
  | zero =>
   have hc : ¬ ((i : Int) < (G.length : Int)) := by omega
   simp only [hc, decide_false, Bool.false_eq_true, if_false, Option.bind_some]
   rw [List.drop_of_length_le (show G.length ≤ i by omega)]
   rfl
  | succ d =>
   have hi : i < G.length := by omega
   have hi2 : i < s2.2.2.length := by omega
   have hc : ((i : Int) < (G.length : Int)) := by omega
   have w2 : IntKind.wrap .i64 ((i : Int) + 1) = ((i + 1 : Nat) : Int) := by rw [wi64 (by omega) (by omega)]; omega
   have hd1 : G.drop i = G[i] :: G.drop (i + 1) := (List.getElem_cons_drop hi).symm
   have hd2 : s2.2.2.drop i = s2.2.2[i] :: s2.2.2.drop (i + 1) := (List.getElem_cons_drop hi2).symm
   have ih := rfind_loop (N := N) (f := f) hG hu d (i + 1) Mf (by omega) (by omega)
   simp only [hc, decide_true, if_true, qCe hi, qCe hi2, Option.bind_some, eqB]
   rw [hd1, hd2]
   simp only [firstI]
   by_cases hcc : s2.2.2[i] = false ∧ G[i].2 = f.2
   ·rw [if_pos hcc]
    simp only [hcc.1, hcc.2, Bool.not_false, if_true, decide_true, Option.bind_some]
    simp [List.getD_eq_getElem?_getD, hi]
    rfl
   ·rw [if_neg hcc]
    have e : (if (!s2.2.2[i]) = true then some (decide (G[i].2 = f.2)) else some false) = some false := by
     cases hu : s2.2.2[i] with
     | true => rfl
     | false =>
      have : ¬ G[i].2 = f.2 := fun e => hcc ⟨hu, e⟩
      simp [this]
    rw [e]
    simp only [Option.bind_some, Bool.false_eq_true, if_false, w2]
    rw [ih]
    cases firstI (G.drop (i + 1)) (s2.2.2.drop (i + 1)) f.2 with
    | none => rfl
    | some j =>
     simp only [Option.map_some]
     rw [show i + (j + 1) = i + 1 + j by omega]
def chgB (a : List File) (f : File) : Option Chg := match fget a f.1 with
 | some y => if y = f.2 then none else some (3, f.1, qEj, f.2)
 | none => none
def seqF (a : List File) : List File → List File → List Chg × List File
 | [], U => ([], U)
 | f :: b, U => match fget a f.1 with
  | some y => if y = f.2 then seqF a b U else ((3, f.1, qEj, f.2) :: (seqF a b U).1, (seqF a b U).2)
  | none => ((qIu U f).1 :: (seqF a b (qIu U f).2).1, (seqF a b (qIu U f).2).2)
theorem seqF_len (a : List File) : ∀ (b U : List File), (seqF a b U).1.length ≤ b.length
 | [], _ => Nat.le_refl _
 | f :: b, U => by
  have h1 := seqF_len a b U
  have h2 := seqF_len a b (qIu U f).2
  simp only [seqF]
  split
  ·split
   ·simp only [List.length_cons]; omega
   ·simp only [List.length_cons]; omega
  ·simp only [List.length_cons]; omega
theorem qMo {N : Nat} {a b G : List File} (ha : WF a) (hb : b.length ≤ 64) (hG : G.length ≤ 64) (hN : 1000 < N) : ∀ (d i Mf : Nat) (out : List Chg) (us : List Bool), i + d = b.length → d < Mf → out.length ≤ i → us.length = G.length →
  ∃ us', qBf (qDz N a b G) Mf (out, (i : Int), us) = some (qKf out (seqF a (b.drop i) (unus G us)).1, us') ∧ us'.length = G.length ∧ unus G us' = (seqF a (b.drop i) (unus G us)).2
 | _, _, 0, _, _, _, h, _, _ => absurd h (Nat.not_lt_zero _)
 | d, i, Mf + 1, out, us, h1, h2, h3, h4 => by
  simp only [qBf, qDz]
  cases d with
  | zero =>
   have hc : ¬ ((i : Int) < (b.length : Int)) := by omega
   simp only [hc, decide_false, Bool.false_eq_true, if_false, Option.bind_some]
   rw [List.drop_of_length_le (by omega)]
   exact ⟨us, rfl, h4, rfl⟩
  | succ d =>
   have hi : i < b.length := by omega
   have hc : ((i : Int) < (b.length : Int)) := by omega
   have w2 : IntKind.wrap .i64 ((i : Int) + 1) = ((i + 1 : Nat) : Int) := by rw [wi64 (by omega) (by omega)]; omega
   have hdrop : b.drop i = b[i] :: b.drop (i + 1) := (List.getElem_cons_drop hi).symm
   simp only [hc, decide_true, if_true, qCe hi, Option.bind_some]
   rw [reffind_wf _ ha (by omega), hdrop]
   cases hg : fget a b[i].1 with
   | some y =>
    simp only [findR, Option.bind_some, if_true, seqF, hg, eqB]
    by_cases hy : y = b[i].2
    ·simp only [hy, decide_true, Bool.not_true, Bool.false_eq_true, if_false, Option.bind_some, w2, if_true]
     exact qMo ha hb hG hN d (i + 1) Mf out us (by omega) (by omega) (by omega) h4
    ·simp only [hy, decide_false, Bool.not_false, if_true, if_false]
     rw [insert_eqC _ (by omega) (by omega)]
     simp only [Option.bind_some, w2, qKh]
     exact qMo ha hb hG hN d (i + 1) Mf _ us (by omega) (by omega) (by rw [insC_len]; omega) h4
   | none =>
    have hf := rfind_loop (N := N) (G := G) (s2 := (out, (i : Int), us)) (f := b[i]) hG h4 G.length 0 N (by omega) (by omega)
    have hs := first_spec G us b[i].2 h4
    simp only [findR, Option.bind_some, Bool.false_eq_true, if_false, seqF, hg]
    rw [show qBf (qEi N G (out, (i : Int), us) b[i]) N 0 = _ from hf]
    simp only [List.drop_zero, Nat.zero_add]
    cases hfi : firstI G us b[i].2 with
    | none =>
     rw [hfi] at hs
     have em : qIu (unus G us) b[i] = ((1, b[i].1, qEj, b[i].2), unus G us) := by unfold qIu; rw [hs]
     simp only [Option.bind_some]
     rw [insert_eqC _ (by omega) (by omega)]
     simp only [Option.bind_some, w2, em, qKh]
     exact qMo ha hb hG hN d (i + 1) Mf _ us (by omega) (by omega) (by rw [insC_len]; omega) h4
    | some j =>
     rw [hfi] at hs
     obtain ⟨hj, ⟨l, hl⟩, hu⟩ := hs
     have em : qIu (unus G us) b[i] = ((4, b[i].1, G[j].1, qEj), takeB (unus G us) b[i].2) := by unfold qIu; rw [hl]
     have egd : G.getD j (qEj, qEj) = G[j] := by simp [List.getD_eq_getElem?_getD, hj]
     simp only [Option.bind_some, egd]
     rw [insert_eqC _ (by omega) (by omega)]
     simp only [Option.bind_some, w2, em, qKh]
     rw [← hu]
     exact qMo ha hb hG hN d (i + 1) Mf _ (us.set j true) (by omega) (by omega) (by rw [insC_len]; omega) (by simpa using h4)
theorem rrem_loop {N : Nat} {G : List File} {o4 : List Chg × List Bool} (hG : G.length ≤ 64) (hu : o4.2.length = G.length) (hN : 1000 < N) : ∀ (d i Mf : Nat) (out : List Chg), i + d = G.length → d < Mf → out.length ≤ 100 + i →
  qBf (qEg N G o4) Mf (out, (i : Int)) = some (qKf out ((unus (G.drop i) (o4.2.drop i)).map fun g => rmC g.1))
 | _, _, 0, _, _, h, _ => absurd h (Nat.not_lt_zero _)
 | d, i, Mf + 1, out, h1, h2, h3 => by
  simp only [qBf, qEg]
  cases d with
  | zero =>
   have hc : ¬ ((i : Int) < (G.length : Int)) := by omega
   simp only [hc, decide_false, Bool.false_eq_true, if_false, Option.bind_some]
   rw [List.drop_of_length_le (show G.length ≤ i by omega)]
   rfl
  | succ d =>
   have hi : i < G.length := by omega
   have hi2 : i < o4.2.length := by omega
   have hc : ((i : Int) < (G.length : Int)) := by omega
   have w2 : IntKind.wrap .i64 ((i : Int) + 1) = ((i + 1 : Nat) : Int) := by rw [wi64 (by omega) (by omega)]; omega
   have hd1 : G.drop i = G[i] :: G.drop (i + 1) := (List.getElem_cons_drop hi).symm
   have hd2 : o4.2.drop i = o4.2[i] :: o4.2.drop (i + 1) := (List.getElem_cons_drop hi2).symm
   simp only [hc, decide_true, if_true, qCe hi, qCe hi2, Option.bind_some]
   rw [hd1, hd2]
   simp only [unus]
   cases hb : o4.2[i] with
   | true =>
    simp only [Bool.not_true, Bool.false_eq_true, if_false, Option.bind_some, w2, if_true]
    exact rrem_loop hG hu hN d (i + 1) Mf out (by omega) (by omega) (by omega)
   | false =>
    simp only [Bool.not_false, if_true, Bool.false_eq_true, if_false]
    rw [show ((2, G[i].1, (⟨#[]⟩ : ByteArray), (⟨#[]⟩ : ByteArray)) : Chg) = rmC G[i].1 from rfl, insert_eqC _ (by omega) (by omega)]
    simp only [Option.bind_some, w2, List.map_cons, qKh]
    exact rrem_loop hG hu hN d (i + 1) Mf _ (by omega) (by omega) (by rw [insC_len]; omega)
theorem seqF_left (a : List File) : ∀ (b U : List File), (seqF a b U).2 = (qKs a b U).2
 | [], _ => rfl
 | f :: b, U => by
  simp only [seqF, qKs]
  cases hg : fget a f.1 with
  | some y => simp only [Option.isSome_some, if_true]; split <;> exact seqF_left a b U
  | none => simp only [Option.isSome_none, Bool.false_eq_true, if_false]; exact seqF_left a b _
theorem seqF_mem (a : List File) {z : Chg} : ∀ (b U : List File), z ∈ (seqF a b U).1 ↔ z ∈ b.filterMap (chgB a) ∨ z ∈ (qKs a b U).1
 | [], _ => by simp [seqF, qKs]
 | f :: b, U => by
  simp only [seqF, qKs, List.filterMap_cons]
  cases hg : fget a f.1 with
  | some y =>
   have ih := seqF_mem a (z := z) b U
   simp only [Option.isSome_some, if_true, chgB, hg]
   by_cases hy : y = f.2
   ·simp only [hy, if_true]; exact ih
   ·simp only [hy, if_false, List.mem_cons, ih]
    constructor
    ·rintro (h | h | h)
     ·exact .inl (.inl h)
     ·exact .inl (.inr h)
     ·exact .inr h
    ·rintro ((h | h) | h)
     ·exact .inl h
     ·exact .inr (.inl h)
     ·exact .inr (.inr h)
  | none =>
   have ih := seqF_mem a (z := z) b (qIu U f).2
   simp only [Option.isSome_none, Bool.false_eq_true, if_false, chgB, hg, List.mem_cons, ih]
   constructor
   ·rintro (h | h | h)
    ·exact .inr (.inl h)
    ·exact .inl h
    ·exact .inr (.inr h)
   ·rintro (h | h | h)
    ·exact .inr (.inl h)
    ·exact .inl h
    ·exact .inr (.inr h)
theorem matchF_path (U : List File) (f : File) : (qIu U f).1.2.1 = f.1 := by unfold qIu; split <;> rfl
theorem qMh (a : List File) : ∀ (b U : List File), ((seqF a b U).1.map fun x => x.2.1).Sublist (b.map (·.1))
 | [], _ => .refl _
 | f :: b, U => by
  simp only [seqF, List.map_cons]
  split
  ·split
   ·exact (qMh a b U).cons _
   ·exact (qMh a b U).cons_cons _
  ·rw [List.map_cons, matchF_path]; exact (qMh a b _).cons_cons _
theorem chg_both {a b : List File} (ha : Asc a) (hb : Asc b) {z : Chg} : z ∈ b.filterMap (chgB a) ↔ z ∈ a.filterMap (chgF b) := by
 simp only [List.mem_filterMap]
 constructor
 ·rintro ⟨f, hf, h⟩
  unfold chgB at h
  cases hg : fget a f.1 with
  | none => rw [hg] at h; cases h
  | some y =>
   rw [hg] at h
   by_cases hy : y = f.2
   ·simp [hy] at h
   ·simp only [hy, if_false, Option.some.injEq] at h
    refine ⟨(f.1, y), fget_mem hg, ?_⟩
    have : ¬ f.2 = y := fun e => hy e.symm
    simp [chgF, qIg hb hf, this, h]
 ·rintro ⟨f, hf, h⟩
  unfold chgF at h
  cases hg : fget b f.1 with
  | none => rw [hg] at h; cases h
  | some y =>
   rw [hg] at h
   by_cases hy : y = f.2
   ·simp [hy] at h
   ·simp only [hy, if_false, Option.some.injEq] at h
    refine ⟨(f.1, y), fget_mem hg, ?_⟩
    have : ¬ f.2 = y := fun e => hy e.symm
    simp [chgB, qIg ha hf, this, h]
theorem seq_dist {a b : List File} (ha : Asc a) (hb : Asc b) : PDist ((seqF a b (qEw b a)).1 ++ (seqF a b (qEw b a)).2.map fun g => rmC g.1) := by
 unfold PDist
 rw [List.map_append, List.nodup_append, List.map_map, seqF_left]
 have e3 : ((fun x : Chg => x.2.1) ∘ fun g : File => rmC g.1) = fun g : File => g.1 := rfl
 rw [e3]
 have s3 : ((qKs a b (qEw b a)).2.map fun g => g.1).Sublist ((qEw b a).map fun g => g.1) := (qMm a b _).map _
 have n3 : ((qEw b a).map fun g => g.1).Nodup := (qMj ha).sublist (List.filter_sublist.map _)
 refine ⟨(qMj hb).sublist (qMh a b _), n3.sublist s3, ?_⟩
 intro p hp q hq e
 subst e
 obtain ⟨g, hg, e⟩ := List.mem_map.1 (s3.subset hq)
 have h2 := (List.mem_filter.1 hg).2
 have h1 := fget_in hb ((qMh a b _).subset hp)
 rw [e] at h2
 cases hh : fget b p with
 | none => rw [hh] at h1; cases h1
 | some y => rw [hh] at h2; cases h2
theorem ref_sorted {a b : List File} (ha : Asc a) (hb : Asc b) : qKf (qKf [] (seqF a b (qEw b a)).1) ((seqF a b (qEw b a)).2.map fun g => rmC g.1) = sortC (diffL a b) := by
 have hd := seq_dist ha hb
 have hd1 : PDist (seqF a b (qEw b a)).1 := List.Nodup.sublist ((List.sublist_append_left _ _).map _) hd
 have p1 := qNg (seqF a b (qEw b a)).1 []
 rw [List.nil_append] at p1
 have a1 : PAsc (qKf [] (seqF a b (qEw b a)).1) := insAll_asc List.Pairwise.nil (by rw [List.nil_append]; exact hd1)
 have a2 : PAsc (qKf (qKf [] (seqF a b (qEw b a)).1) ((seqF a b (qEw b a)).2.map fun g => rmC g.1)) := insAll_asc a1 (hd.perm (p1.symm.append_right _))
 refine a2.ext (sortC_asc (diffL_dist ha hb)) fun z => ?_
 rw [(qNg _ _).mem_iff, sortC_mem, List.mem_append, p1.mem_iff, seqF_mem, chg_both ha hb, seqF_left]
 simp only [diffL, List.mem_append]
theorem makeA_some {k : Nat} (hk : k ≤ 1000) : makeA 1 false (k : Int) = some (List.replicate k false) := by
 have hm : (maxLen : Nat) = 9223372036854775807 := rfl
 unfold makeA
 rw [if_pos (by omega)]; simp
theorem refDiff_eq {N : Nat} {a b : List File} (hN : 2000 < N) : qFt N a b = some (diffP a b) := by
 unfold qFt diffP
 rw [qLj (by omega)]
 by_cases h1 : qGf a = 0
 ·rw [qLj (by omega)]
  by_cases h2 : qGf b = 0
  ·have wa := qHp.1 h1
   have wb := qHp.1 h2
   simp only [h1, h2, bne_self_eq_false, Bool.false_eq_true, if_false, Option.bind_some, and_self, if_true]
   have g1 := rgone_loop (N := N) (a := a) wb wa.1 (by omega) a.length 0 N (by omega) (by have := wa.1; omega)
   have g1' : qBf (qEd N a b) N (([] : List File), 0) = some (qEw b a) := g1
   have hU : (qEw b a).length ≤ 64 := Nat.le_trans (goneL_le b a) wa.1
   rw [g1']
   simp only [Option.bind_some]
   rw [makeA_some (by omega)]
   obtain ⟨us, g3, g4, g5⟩ := qMo (N := N) (b := b) (G := qEw b a) wa wb.1 hU (by omega) b.length 0 N [] (List.replicate (qEw b a).length false) (by omega) (by have := wb.1; omega) (Nat.le_refl _) (by simp)
   rw [List.drop_zero, unus_rep] at g3 g5
   have g3' : qBf (qDz N a b (qEw b a)) N (([] : List Chg), 0, List.replicate (qEw b a).length false) = some (qKf [] (seqF a b (qEw b a)).1, us) := g3
   simp only [Option.bind_some]
   rw [g3']
   have hsl := seqF_len a b (qEw b a)
   have g6 := rrem_loop (N := N) (G := qEw b a) (o4 := (qKf [] (seqF a b (qEw b a)).1, us)) hU g4 (by omega) (qEw b a).length 0 N (qKf [] (seqF a b (qEw b a)).1) (by omega) (by omega) (by rw [insAll_len]; have := wb.1; simp only [List.length_nil]; omega)
   rw [List.drop_zero, List.drop_zero, g5] at g6
   simp only [Option.bind_some]
   rw [show qBf (qEg N (qEw b a) (qKf [] (seqF a b (qEw b a)).1, us)) N (qKf [] (seqF a b (qEw b a)).1, 0) = _ from g6]
   simp only [Option.bind_some]
   rw [ref_sorted wa.2.1 wb.2.1]
  ·simp only [h1, h2, bne_self_eq_false, Bool.false_eq_true, if_false, Option.bind_some, and_false]
   have : (qGf b != 0) = true := by simpa using h2
   simp only [this, if_true]
 ·have : (qGf a != 0) = true := by simpa using h1
  simp only [this, if_true, Option.bind_some, h1, false_and, if_false]
end Go.Proofs.YtgggihpbhmbjaaaGreatDoor
