/- The index: Build, Add, Find, which records are affected. No condition. -/
import Derived.Test.YtgggihpbhmbjaaaDoorIdxBk3
namespace Go.Proofs.YtgggihpbhmbjaaaDoor
open Go Go.Dc Go.Sort Go.Proofs
def SmallR (c : Rcd) : Prop := c.2.2.2.2.2.2.length ≤ 1000 ∧ ∀ k ∈ recKeys c, k.2.1.size ≤ 1048576
def InvX (i : Nat) (x : Ixx) : Prop := x.2 = (i : Int) ∧ x.1.length ≤ 1000 * i ∧ ∀ p ∈ x.1, p.2.length ≤ i ∧ p.1.2.1.size ≤ 1048576
theorem grown_inv {i : Nat} {x : Ixx} {c : Rcd} (h : InvX i x) (hc : SmallR c) : InvX (i + 1) (grownP x c) := by
 obtain ⟨h1, h2, h3⟩ := h
 have hk : (recKeys c).length = c.2.2.2.2.2.2.length := List.length_map ..
 have hcl := canon_len (recKeys c)
 have hc1 := hc.1
 refine ⟨by show x.2 + 1 = _; omega, ?_, ?_⟩
 ·have := mergeF_len (n := x.2) (x.1.length + (canon (recKeys c)).length) x.1 (canon (recKeys c))
  show (mergeF _ _ _ _).length ≤ _
  omega
 ·refine mergeF_all (P := fun p => p.2.length ≤ i ∧ p.1.2.1.size ≤ 1048576) (Q := fun p => p.2.length ≤ i + 1 ∧ p.1.2.1.size ≤ 1048576) (R := fun k => k.2.1.size ≤ 1048576) ?_ ?_ ?_ _ _ _ h3 (fun k hk => hc.2 k (canon_mem.1 hk))
  ·rintro p ⟨a, b⟩; exact ⟨by omega, b⟩
  ·rintro p ⟨a, b⟩ _; exact ⟨by simp only [List.length_append, List.length_cons, List.length_nil]; omega, b⟩
  ·intro k hk; exact ⟨by simp only [List.length_cons, List.length_nil]; omega, hk⟩
def wellC (c : Rcd) : Bool := c.2.2.2.2.2.2.all fun f => checkP f.1
theorem wellC_keys {c : Rcd} (h : wellC c = true) : ∀ k ∈ recKeys c, checkP k = true := fun k hk => by
 obtain ⟨f, hf, rfl⟩ := List.mem_map.1 hk
 exact List.all_eq_true.1 h f hf
theorem well_loop {N : Nat} (hN : 3000000 < N) {c : Rcd} (hc : SmallR c) : ∀ (d i M : Nat), i + d = c.2.2.2.2.2.2.length → d < M →
  ∃ o, loopM (index_well_L1 N c) M (i : Int) = some o ∧ ((((c.2.2.2.2.2.2.drop i).all fun f => checkP f.1) = true ∧ o = .inl ()) ∨ (((c.2.2.2.2.2.2.drop i).all fun f => checkP f.1) = false ∧ ∃ j : Nat, o = .inr (j : Int)))
 | _, _, 0, _, h => absurd h (Nat.not_lt_zero _)
 | d, i, M + 1, h1, h2 => by
  have hl := hc.1
  simp only [loopM, index_well_L1]
  cases d with
  | zero =>
   have hc : ¬ ((i : Int) < (c.2.2.2.2.2.2.length : Int)) := by omega
   simp only [hc, decide_false, Bool.false_eq_true, if_false, Option.bind_some]
   exact ⟨_, rfl, .inl ⟨by rw [List.drop_of_length_le (by omega)]; rfl, rfl⟩⟩
  | succ d =>
   have hi : i < c.2.2.2.2.2.2.length := by omega
   have hc' : ((i : Int) < (c.2.2.2.2.2.2.length : Int)) := by omega
   have w2 : IntKind.wrap .i64 ((i : Int) + 1) = ((i + 1 : Nat) : Int) := by rw [wi64 (by omega) (by omega)]; omega
   have hdrop : c.2.2.2.2.2.2.drop i = c.2.2.2.2.2.2[i] :: c.2.2.2.2.2.2.drop (i + 1) := (List.getElem_cons_drop hi).symm
   have hs := hc.2 c.2.2.2.2.2.2[i].1 (List.mem_map_of_mem (List.getElem_mem hi))
   have hk : index_well_1 N ((c.2.2.2.2.2.2[i].1.1, c.2.2.2.2.2.2[i].1.2.1, c.2.2.2.2.2.2[i].1.2.2), c.2.2.2.2.2.2[i].2) = some (!checkP c.2.2.2.2.2.2[i].1) := by
    simp only [index_well_1, fact_Check_small hN hs, Option.bind_some]
   simp only [hc', decide_true, if_true, idx_nat hi, Option.bind_some, hk]
   rw [hdrop]
   simp only [List.all_cons]
   by_cases hck : checkP c.2.2.2.2.2.2[i].1 = true
   ·simp only [hck, Bool.not_true, Bool.false_eq_true, if_false, Option.bind_some, w2, Bool.true_and]
    exact well_loop hN hc d (i + 1) M (by omega) (by omega)
   ·have hck := Bool.eq_false_iff.2 hck
    simp only [hck, Bool.not_false, if_true, Option.bind_some, Bool.false_and]
    exact ⟨_, rfl, .inr ⟨trivial, i, rfl⟩⟩
theorem well_eq {N : Nat} (hN : 3000000 < N) {c : Rcd} (hc : SmallR c) : index_well N c = some (wellC c) := by
 obtain ⟨o, h1, h2⟩ := well_loop hN hc c.2.2.2.2.2.2.length 0 N (by omega) (by have := hc.1; omega)
 have h1' : loopM (index_well_L1 N c) N 0 = some o := h1
 simp only [index_well, h1', Option.bind_some]
 rw [List.drop_zero] at h2
 rcases h2 with ⟨h2, rfl⟩ | ⟨h2, j, rfl⟩
 ·rw [show wellC c = true from h2]; rfl
 ·rw [show wellC c = false from h2]
  have : (j : Int) ≥ 0 := by omega
  simp [this]
theorem buildA {N : Nat} (hN : 3000000 < N) {l : List Rcd} (hl : l.length ≤ 512) (hL : ∀ c ∈ l, SmallR c) : ∀ (d i M : Nat), i + d = l.length → d < M →
  ∃ o, loopM (index_Build_L1 N l) M (i : Int) = some o ∧ (((l.drop i).all wellC = true ∧ o = .inl ()) ∨ ((l.drop i).all wellC = false ∧ ∃ j : Nat, o = .inr (j : Int)))
 | _, _, 0, _, h => absurd h (Nat.not_lt_zero _)
 | d, i, M + 1, h1, h2 => by
  simp only [loopM, index_Build_L1]
  cases d with
  | zero =>
   have hc : ¬ ((i : Int) < (l.length : Int)) := by omega
   simp only [hc, decide_false, Bool.false_eq_true, if_false, Option.bind_some]
   exact ⟨_, rfl, .inl ⟨by rw [List.drop_of_length_le (by omega)]; rfl, rfl⟩⟩
  | succ d =>
   have hi : i < l.length := by omega
   have hc' : ((i : Int) < (l.length : Int)) := by omega
   have w2 : IntKind.wrap .i64 ((i : Int) + 1) = ((i + 1 : Nat) : Int) := by rw [wi64 (by omega) (by omega)]; omega
   have hdrop : l.drop i = l[i] :: l.drop (i + 1) := (List.getElem_cons_drop hi).symm
   have hk : ∀ c : Rcd, SmallR c → index_Build_1 N ((c.1.1, c.1.2), c.2.1, c.2.2.1, c.2.2.2.1, (c.2.2.2.2.1.1, c.2.2.2.2.1.2.1, c.2.2.2.2.1.2.2), c.2.2.2.2.2.1, c.2.2.2.2.2.2) = some (!wellC c) := fun c hc => by
    show index_Build_1 N c = _
    simp only [index_Build_1]
    rw [show index_well N ((c.1.1, c.1.2), c.2.1, c.2.2.1, c.2.2.2.1, (c.2.2.2.2.1.1, c.2.2.2.2.1.2.1, c.2.2.2.2.1.2.2), c.2.2.2.2.2.1, c.2.2.2.2.2.2) = some (wellC c) from well_eq hN hc]
    rfl
   simp only [hc', decide_true, if_true, idx_nat hi, Option.bind_some, hk l[i] (hL _ (List.getElem_mem hi))]
   rw [hdrop]
   simp only [List.all_cons]
   by_cases hck : wellC l[i] = true
   ·simp only [hck, Bool.not_true, Bool.false_eq_true, if_false, Option.bind_some, w2, Bool.true_and]
    exact buildA hN hl hL d (i + 1) M (by omega) (by omega)
   ·have hck := Bool.eq_false_iff.2 hck
    simp only [hck, Bool.not_false, if_true, Option.bind_some, Bool.false_and]
    exact ⟨_, rfl, .inr ⟨trivial, i, rfl⟩⟩
theorem grown_eq' {N : Nat} (hN : 3000000 < N) {i : Nat} {x : Ixx} {c : Rcd} (hi : i ≤ 512) (hx : InvX i x) (hc : SmallR c) : index_grown N (x.1, x.2) ((c.1.1, c.1.2), c.2.1, c.2.2.1, c.2.2.2.1, (c.2.2.2.2.1.1, c.2.2.2.2.1.2.1, c.2.2.2.2.1.2.2), c.2.2.2.2.2.1, c.2.2.2.2.2.2) = some (grownP x c) := by
 obtain ⟨h1, h2, h3⟩ := hx
 have hc1 := hc.1
 exact grown_eq (x := x) (c := c) hN (by omega) (by omega) (fun p hp => by have := (h3 p hp).1; omega) (by omega)
theorem buildB {N : Nat} (hN : 3000000 < N) {l : List Rcd} (hl : l.length ≤ 512) (hL : ∀ c ∈ l, SmallR c) : ∀ (d i M : Nat) (x : Ixx), i + d = l.length → d < M → InvX i x →
  loopM (index_Build_L2 N l) M ((i : Int), x.1, x.2) = some ((l.drop i).foldl grownP x)
 | _, _, 0, _, _, h, _ => absurd h (Nat.not_lt_zero _)
 | d, i, M + 1, x, h1, h2, h3 => by
  simp only [loopM, index_Build_L2]
  cases d with
  | zero =>
   have hc : ¬ ((i : Int) < (l.length : Int)) := by omega
   simp only [hc, decide_false, Bool.false_eq_true, if_false, Option.bind_some]
   rw [List.drop_of_length_le (by omega)]; rfl
  | succ d =>
   have hi : i < l.length := by omega
   have hc' : ((i : Int) < (l.length : Int)) := by omega
   have w2 : IntKind.wrap .i64 ((i : Int) + 1) = ((i + 1 : Nat) : Int) := by rw [wi64 (by omega) (by omega)]; omega
   have hdrop : l.drop i = l[i] :: l.drop (i + 1) := (List.getElem_cons_drop hi).symm
   have hci := hL _ (List.getElem_mem hi)
   simp only [hc', decide_true, if_true, idx_nat hi, Option.bind_some]
   rw [grown_eq' hN (by omega) h3 hci]
   simp only [Option.bind_some, w2]
   rw [buildB hN hl hL d (i + 1) M (grownP x l[i]) (by omega) (by omega) (grown_inv h3 hci), hdrop]
   rfl
def emptyX : Ixx := ([], 0)
theorem empty_inv : InvX 0 emptyX := ⟨rfl, Nat.le_refl _, fun p hp => by simp [emptyX] at hp⟩
theorem empty_well : WellX emptyX := ⟨⟨by decide, by decide⟩, fun p hp => by simp [emptyX] at hp, List.Pairwise.nil⟩
theorem Build_eq {N : Nat} (hN : 3000000 < N) {l : List Rcd} (hl : l.length ≤ 512) (hL : ∀ c ∈ l, SmallR c) : index_Build N l = some (if l.all wellC = true then (l.foldl grownP emptyX, 0) else (emptyX, 1)) := by
 obtain ⟨o, h1, h2⟩ := buildA hN hl hL l.length 0 N (by omega) (by omega)
 have h1' : loopM (index_Build_L1 N l) N 0 = some o := h1
 have h3 : loopM (index_Build_L2 N l) N (0, ([] : List Pst), 0) = some (l.foldl grownP emptyX) := buildB hN hl hL l.length 0 N emptyX (by omega) (by omega) empty_inv
 have hc : ¬ ((l.length : Int) > 512) := by omega
 simp only [index_Build, hc, decide_false, Bool.false_eq_true, if_false, h1', Option.bind_some]
 rw [List.drop_zero] at h2
 rcases h2 with ⟨h2, rfl⟩ | ⟨h2, j, rfl⟩
 ·have e : ¬ ((-1 : Int) ≥ 0) := by omega
  simp only [Option.bind_some, e, decide_false, Bool.false_eq_true, if_false, h3, h2, if_true]
 ·have : (j : Int) ≥ 0 := by omega
  simp only [Option.bind_some, this, decide_true, if_true, h2, Bool.false_eq_true, if_false]
  rfl
theorem inv_small {i : Nat} {x : Ixx} (hi : i ≤ 512) (h : InvX i x) : SmallX x := by
 obtain ⟨h1, h2, h3⟩ := h
 exact ⟨by omega, fun p hp => ⟨(h3 p hp).2, by have := (h3 p hp).1; omega⟩⟩
theorem Add_eq {N : Nat} (hN : 3000000 < N) {i : Nat} {x : Ixx} {c : Rcd} (hi : i < 512) (hx : InvX i x) (hw : WellX x) (hc : SmallR c) (hwc : wellC c = true) :
  index_Add N (x.1, x.2) ((c.1.1, c.1.2), c.2.1, c.2.2.1, c.2.2.2.1, (c.2.2.2.2.1.1, c.2.2.2.2.1.2.1, c.2.2.2.2.1.2.2), c.2.2.2.2.2.1, c.2.2.2.2.2.2) = some (grownP x c, 0) := by
 have h1 := Check_eq hN (inv_small (by omega) hx)
 rw [checkX_iff.2 hw] at h1
 have h2 : (x.2 == 512) = false := by have := hx.1; simp only [beq_eq_false_iff_ne]; omega
 simp only [index_Add]
 rw [show index_Check N (x.1, x.2) = some true from h1]
 simp only [Option.bind_some, Bool.not_true, Bool.false_eq_true, if_false, h2]
 rw [show index_well N ((c.1.1, c.1.2), c.2.1, c.2.2.1, c.2.2.2.1, (c.2.2.2.2.1.1, c.2.2.2.2.1.2.1, c.2.2.2.2.1.2.2), c.2.2.2.2.2.1, c.2.2.2.2.2.2) = some true from (well_eq hN hc).trans (by rw [hwc])]
 simp only [Option.bind_some, Bool.not_true, Bool.false_eq_true, if_false]
 rw [grown_eq' hN (by omega) hx hc]
 rfl
end Go.Proofs.YtgggihpbhmbjaaaDoor
