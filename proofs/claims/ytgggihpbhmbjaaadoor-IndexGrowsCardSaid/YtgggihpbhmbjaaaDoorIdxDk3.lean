/- The index: what is found, which records are affected. No condition. -/
import Derived.Test.YtgggihpbhmbjaaaDoorIdxCk3
namespace Go.Proofs.YtgggihpbhmbjaaaDoor
open Go Go.Dc Go.Sort Go.Proofs
def findL : List Pst → Ky → List Int
 | [], _ => []
 | p :: L, k => if p.1 = k then p.2 else findL L k
theorem findL_at {k : Ky} : ∀ {L : List Pst} {m : Nat}, Asc L → (hm : m < L.length) → L[m].1 = k → findL L k = L[m].2
 | p :: L, 0, _, _, h => by simp only [List.getElem_cons_zero] at h ⊢; simp [findL, h]
 | p :: L, m + 1, ha, hm, h => by
  have ha' := List.pairwise_cons.1 ha
  simp only [List.length_cons] at hm
  simp only [List.getElem_cons_succ] at h ⊢
  have hp := ha'.1 L[m] (List.getElem_mem (by omega))
  have hne : ¬ p.1 = k := fun e => by rw [e, h] at hp; have := (cK_lin.zero k k).2 rfl; omega
  simp only [findL, hne, if_false]
  exact findL_at ha'.2 (by omega) h
theorem findL_none {k : Ky} : ∀ {L : List Pst}, (∀ p ∈ L, p.1 ≠ k) → findL L k = []
 | [], _ => rfl
 | p :: L, h => by
  simp only [findL, h p (List.mem_cons_self ..), if_false]
  exact findL_none fun q hq => h q (List.mem_cons_of_mem _ hq)
theorem findL_ok {n : Int} {k : Ky} : ∀ {L : List Pst}, (∀ p ∈ L, PostOK n p) → RecOK n (findL L k)
 | [], _ => ⟨fun r hr => by simp [findL] at hr, List.Pairwise.nil⟩
 | p :: L, h => by
  simp only [findL]
  split
  ·exact (h p (List.mem_cons_self ..)).2.2
  ·exact findL_ok fun q hq => h q (List.mem_cons_of_mem _ hq)
theorem half_eq {i j : Nat} (hi : i < 2000000) (hj : j < 2000000) : IntKind.wrap .i64 (Int.fdiv (IntKind.wrap .u64 (IntKind.wrap .i64 ((i : Int) + (j : Int)))) (2 ^ 1)) = (((i + j) / 2 : Nat) : Int) := by
 have w1 : IntKind.wrap .i64 ((i : Int) + (j : Int)) = ((i + j : Nat) : Int) := by rw [wi64 (by omega) (by omega)]; omega
 have w2 : IntKind.wrap .u64 ((i + j : Nat) : Int) = ((i + j : Nat) : Int) := wu64 (by omega) (by omega)
 have w3 : Int.fdiv ((i + j : Nat) : Int) (2 ^ 1) = (((i + j) / 2 : Nat) : Int) := by
  rw [Int.fdiv_eq_ediv_of_nonneg _ (by decide)]
  omega
 rw [w1, w2, w3, wi64 (by omega) (by omega)]
theorem find_loop {N : Nat} (hN : 3000000 < N) {x : Ixx} {k : Ky} (hl : x.1.length ≤ 1048576) : ∀ (d i j M : Nat), j - i ≤ d → d < M → i ≤ j → (hj : j ≤ x.1.length) → (∀ t (h : t < x.1.length), t < i → cK x.1[t].1 k < 0) → (∀ t (h : t < x.1.length), j ≤ t → ¬ cK x.1[t].1 k < 0) →
  Asc x.1 → ∃ m : Nat, loopM (index_Find_L1 N x k) M ((i : Int), (j : Int)) = some (m : Int) ∧ m ≤ x.1.length ∧ (∀ t (h : t < x.1.length), t < m → cK x.1[t].1 k < 0) ∧ (∀ t (h : t < x.1.length), m ≤ t → ¬ cK x.1[t].1 k < 0)
 | _, _, _, 0, _, h, _, _, _, _, _ => absurd h (Nat.not_lt_zero _)
 | d, i, j, M + 1, h1, h2, h3, h4, h5, h6, ha => by
  simp only [loopM, index_Find_L1]
  by_cases hij : i < j
  ·have hc : ((i : Int) < (j : Int)) := by omega
   have hh := half_eq (i := i) (j := j) (by omega) (by omega)
   generalize hg : (i + j) / 2 = g at hh
   have g1 : i ≤ g := by omega
   have g2 : g < j := by omega
   have hgl : g < x.1.length := by omega
   have mono : ∀ t s (ht : t < x.1.length) (hs : s < x.1.length), t < s → cK x.1[t].1 x.1[s].1 < 0 := fun t s ht hs hts => List.pairwise_iff_getElem.1 ha t s ht hs hts
   have w2 : IntKind.wrap .i64 ((g : Int) + 1) = ((g + 1 : Nat) : Int) := by rw [wi64 (by omega) (by omega)]; omega
   have hcmp : fact_Compare N (x.1[g].1.1, x.1[g].1.2.1, x.1[g].1.2.2) (k.1, k.2.1, k.2.2) = some (cK x.1[g].1 k) := Compare_eq hN _ _
   simp only [hc, decide_true, if_true, hh, idx_nat hgl, Option.bind_some, hcmp]
   by_cases hlt : cK x.1[g].1 k < 0
   ·have : ¬ cK x.1[g].1 k ≥ 0 := by omega
    simp only [this, decide_false, Bool.not_false, if_true, Option.bind_some, w2]
    refine find_loop hN hl (d - 1) (g + 1) j M (by omega) (by omega) (by omega) h4 (fun t ht htg => ?_) h6 ha
    by_cases e : t = g
    ·subst e; exact hlt
    ·exact cK_lin.trans _ _ _ (mono t g ht hgl (by omega)) hlt
   ·have : cK x.1[g].1 k ≥ 0 := by omega
    simp only [this, decide_true, Bool.not_true, Bool.false_eq_true, if_false, Option.bind_some]
    refine find_loop hN hl (d - 1) i g M (by omega) (by omega) (by omega) (by omega) h5 (fun t ht htg hneg => ?_) ha
    by_cases e : t = g
    ·subst e; exact hlt hneg
    ·exact hlt (cK_lin.trans _ _ _ (mono g t hgl ht (by omega)) hneg)
  ·have hc : ¬ ((i : Int) < (j : Int)) := by omega
   simp only [hc, decide_false, Bool.false_eq_true, if_false, Option.bind_some]
   have : i = j := by omega
   subst this
   exact ⟨i, rfl, h4, h5, h6⟩
theorem Find_eq {N : Nat} (hN : 3000000 < N) {x : Ixx} {k : Ky} (hx : SmallX x) : index_Find N (x.1, x.2) (k.1, k.2.1, k.2.2) = some (if checkX x = true then findL x.1 k else []) := by
 show index_Find N x k = _
 have hl := hx.1
 have h0 := Check_eq hN hx
 simp only [index_Find]
 rw [show index_Check N (x.1, x.2) = some (checkX x) from h0]
 cases hck : checkX x with
 | false => rfl
 | true =>
  have hw := checkX_iff.1 hck
  obtain ⟨m, e1, e2, e3, e4⟩ := find_loop (N := N) hN (x := x) (k := k) hl x.1.length 0 x.1.length N (by omega) (by omega) (by omega) (Nat.le_refl _) (fun t _ h => by omega) (fun t h1 h2 => by omega) hw.2.2
  have e1' : loopM (index_Find_L1 N x k) N (0, (x.1.length : Int)) = some (m : Int) := e1
  simp only [Option.bind_some, Bool.not_true, Bool.false_eq_true, if_false, e1', if_true]
  have none_of : (∀ (h : m < x.1.length), x.1[m].1 ≠ k) → findL x.1 k = [] := fun hne => findL_none fun p hp e => by
   obtain ⟨t, ht, rfl⟩ := List.getElem_of_mem hp
   have hz := (cK_lin.zero x.1[t].1 k).2 e
   by_cases h1 : t < m
   ·have := e3 t ht h1; omega
   ·by_cases h2 : t = m
    ·subst h2; exact hne ht e
    ·have hml : m < x.1.length := by omega
     have a1 := e4 m hml (Nat.le_refl _)
     have a2 := List.pairwise_iff_getElem.1 hw.2.2 m t hml ht (by omega)
     rw [e] at a2; exact a1 a2
  by_cases hm : m = x.1.length
  ·have : ((m : Int) == (x.1.length : Int)) = true := by simp [hm]
   simp only [this, if_true, Option.bind_some]
   rw [none_of (fun h => by omega)]
  ·have : ((m : Int) == (x.1.length : Int)) = false := by simp only [beq_eq_false_iff_ne]; omega
   have hml : m < x.1.length := by omega
   simp only [this, Bool.false_eq_true, if_false, idx_nat hml, Option.bind_some, keyEq]
   by_cases he : x.1[m].1 = k
   ·have hs := hx.2 x.1[m] (List.getElem_mem hml)
    simp only [he, decide_true, Bool.not_true, Bool.false_eq_true, if_false]
    rw [clone_eq (by omega), findL_at hw.2.2 hml he]
    rfl
   ·simp only [he, decide_false, Bool.not_false, if_true]
    rw [none_of (fun _ => he)]
def markL (R : List Int) (l : List Bool) : List Bool := R.foldl (fun l t => l.set t.toNat true) l
def marksL (L : List Pst) (keys : List Ky) (l : List Bool) : List Bool := keys.foldl (fun l k => markL (findL L k) l) l
theorem markL_len : ∀ (R : List Int) (l : List Bool), (markL R l).length = l.length
 | [], _ => rfl
 | r :: R, l => by
  show (markL R (l.set r.toNat true)).length = _
  rw [markL_len R]; simp
theorem marksL_len (L : List Pst) : ∀ (keys : List Ky) (l : List Bool), (marksL L keys l).length = l.length
 | [], _ => rfl
 | k :: keys, l => by
  show (marksL L keys (markL (findL L k) l)).length = _
  rw [marksL_len L keys, markL_len]
theorem mark_loop {N : Nat} {R : List Int} (hR : R.length ≤ 2000000) : ∀ (d i M : Nat) (l : List Bool), i + d = R.length → d < M → (∀ r ∈ R, 0 ≤ r ∧ r < (l.length : Int)) → loopM (index_divide_L3 N R) M ((i : Int), l) = some (markL (R.drop i) l)
 | _, _, 0, _, _, h, _ => absurd h (Nat.not_lt_zero _)
 | d, i, M + 1, l, h1, h2, h3 => by
  simp only [loopM, index_divide_L3]
  cases d with
  | zero =>
   have hc : ¬ ((i : Int) < (R.length : Int)) := by omega
   simp only [hc, decide_false, Bool.false_eq_true, if_false, Option.bind_some]
   rw [List.drop_of_length_le (by omega)]; rfl
  | succ d =>
   have hi : i < R.length := by omega
   have hc : ((i : Int) < (R.length : Int)) := by omega
   have w2 : IntKind.wrap .i64 ((i : Int) + 1) = ((i + 1 : Nat) : Int) := by rw [wi64 (by omega) (by omega)]; omega
   have hdrop : R.drop i = R[i] :: R.drop (i + 1) := (List.getElem_cons_drop hi).symm
   obtain ⟨r0, r1⟩ := h3 _ (List.getElem_mem hi)
   have hx : idx l R[i] = some (l[R[i].toNat]'(by omega)) := by
    have : idx l ((R[i].toNat : Nat) : Int) = some (l[R[i].toNat]'(by omega)) := idx_nat (by omega)
    rwa [Int.toNat_of_nonneg r0] at this
   simp only [hc, decide_true, if_true, idx_nat hi, Option.bind_some, hx, w2]
   rw [mark_loop hR d (i + 1) M _ (by omega) (by omega) (by simpa using h3), hdrop]
   rfl
theorem marks_loop {N : Nat} (hN : 3000000 < N) {x : Ixx} (hx : SmallX x) (hw : WellX x) {keys : List Ky} (hk : keys.length ≤ 1000000) : ∀ (d i M : Nat) (l : List Bool), i + d = keys.length → d < M → (l.length : Int) = x.2 →
  loopM (index_divide_L2 N x keys) M ((i : Int), l) = some (marksL x.1 (keys.drop i) l)
 | _, _, 0, _, _, h, _ => absurd h (Nat.not_lt_zero _)
 | d, i, M + 1, l, h1, h2, h3 => by
  simp only [loopM, index_divide_L2]
  cases d with
  | zero =>
   have hc : ¬ ((i : Int) < (keys.length : Int)) := by omega
   simp only [hc, decide_false, Bool.false_eq_true, if_false, Option.bind_some]
   rw [List.drop_of_length_le (by omega)]; rfl
  | succ d =>
   have hi : i < keys.length := by omega
   have hc : ((i : Int) < (keys.length : Int)) := by omega
   have w2 : IntKind.wrap .i64 ((i : Int) + 1) = ((i + 1 : Nat) : Int) := by rw [wi64 (by omega) (by omega)]; omega
   have hdrop : keys.drop i = keys[i] :: keys.drop (i + 1) := (List.getElem_cons_drop hi).symm
   have hf := Find_eq (N := N) hN (x := x) (k := keys[i]) hx
   rw [checkX_iff.2 hw, if_pos rfl] at hf
   have hr : RecOK x.2 (findL x.1 keys[i]) := findL_ok hw.2.1
   have hlen : (findL x.1 keys[i]).length ≤ 1048576 := by
    have : ∀ L : List Pst, (∀ p ∈ L, p.2.length ≤ 1048576) → (findL L keys[i]).length ≤ 1048576 := by
     intro L
     induction L with
     | nil => intro _; simp [findL]
     | cons p L ih =>
      intro h
      simp only [findL]
      split
      ·exact h p (List.mem_cons_self ..)
      ·exact ih fun q hq => h q (List.mem_cons_of_mem _ hq)
    exact this x.1 fun p hp => (hx.2 p hp).2
   have hm : loopM (index_divide_L3 N (findL x.1 keys[i])) N (0, l) = some (markL (findL x.1 keys[i]) l) := mark_loop (by omega) (findL x.1 keys[i]).length 0 N l (by omega) (by omega) (fun r hr' => by have := hr.1 r hr'; omega)
   simp only [hc, decide_true, if_true, idx_nat hi, Option.bind_some, hf, hm, w2]
   rw [marks_loop hN hx hw hk d (i + 1) M _ (by omega) (by omega) (by rw [markL_len]; exact h3), hdrop]
   rfl
def selB (b : Bool) : Nat → List Bool → List Int
 | _, [] => []
 | i, a :: l => if a = b then (i : Int) :: selB b (i + 1) l else selB b (i + 1) l
theorem selB_len : ∀ (i : Nat) (l : List Bool), (selB true i l).length + (selB false i l).length = l.length
 | _, [] => rfl
 | i, a :: l => by
  have := selB_len (i + 1) l
  cases a <;> simp [selB] <;> omega
theorem sel_loop {N : Nat} {x : Ixx} {b : Bool} {l : List Bool} (hn : x.2 = (l.length : Int)) (hl : l.length ≤ 1000000) : ∀ (d i M : Nat) (S : List Int), i + d = l.length → d < M → S.length ≤ i → loopM (index_divide_L4 N x b l) M (S, (i : Int)) = some (S ++ selB b i (l.drop i))
 | _, _, 0, _, _, h, _ => absurd h (Nat.not_lt_zero _)
 | d, i, M + 1, S, h1, h2, h3 => by
  have hn' : x.2.toNat = l.length := by omega
  simp only [loopM, index_divide_L4, hn']
  cases d with
  | zero =>
   have hc : ¬ ((i : Int) < (l.length : Int)) := by omega
   simp only [hc, decide_false, Bool.false_eq_true, if_false, Option.bind_some]
   rw [List.drop_of_length_le (by omega)]; simp [selB]
  | succ d =>
   have hi : i < l.length := by omega
   have hc : ((i : Int) < (l.length : Int)) := by omega
   have w2 : IntKind.wrap .i64 ((i : Int) + 1) = ((i + 1 : Nat) : Int) := by rw [wi64 (by omega) (by omega)]; omega
   have hdrop : l.drop i = l[i] :: l.drop (i + 1) := (List.getElem_cons_drop hi).symm
   simp only [hc, decide_true, if_true, idx_nat hi, Option.bind_some]
   rw [hdrop]
   simp only [selB]
   by_cases he : l[i] = b
   ·have : (l[i] == b) = true := by simp [he]
    simp only [this, if_true]
    rw [if_pos he, appendS_some (by simp only [List.length_cons, List.length_nil]; omega) (by decide)]
    simp only [Option.bind_some, w2]
    rw [sel_loop hn hl d (i + 1) M _ (by omega) (by omega) (by simp only [List.length_append, List.length_cons, List.length_nil]; omega), List.append_assoc]
    rfl
   ·have : (l[i] == b) = false := by simp [he]
    simp only [this, Bool.false_eq_true, if_false, Option.bind_some, w2]
    rw [if_neg he, sel_loop hn hl d (i + 1) M _ (by omega) (by omega) (by omega)]
theorem keys_loop {N : Nat} (hN : 3000000 < N) {keys : List Ky} (hk : keys.length ≤ 1000000) (hs : ∀ k ∈ keys, k.2.1.size ≤ 1048576) : ∀ (d i M : Nat), i + d = keys.length → d < M →
  ∃ o, loopM (index_divide_L1 N keys) M (i : Int) = some o ∧ (((keys.drop i).all checkP = true ∧ o = .inl ()) ∨ ((keys.drop i).all checkP = false ∧ ∃ j : Nat, o = .inr (j : Int)))
 | _, _, 0, _, h => absurd h (Nat.not_lt_zero _)
 | d, i, M + 1, h1, h2 => by
  simp only [loopM, index_divide_L1]
  cases d with
  | zero =>
   have hc : ¬ ((i : Int) < (keys.length : Int)) := by omega
   simp only [hc, decide_false, Bool.false_eq_true, if_false, Option.bind_some]
   exact ⟨_, rfl, .inl ⟨by rw [List.drop_of_length_le (by omega)]; rfl, rfl⟩⟩
  | succ d =>
   have hi : i < keys.length := by omega
   have hc' : ((i : Int) < (keys.length : Int)) := by omega
   have w2 : IntKind.wrap .i64 ((i : Int) + 1) = ((i + 1 : Nat) : Int) := by rw [wi64 (by omega) (by omega)]; omega
   have hdrop : keys.drop i = keys[i] :: keys.drop (i + 1) := (List.getElem_cons_drop hi).symm
   have hk1 : index_divide_1 N (keys[i].1, keys[i].2.1, keys[i].2.2) = some (!checkP keys[i]) := by
    simp only [index_divide_1, fact_Check_small hN (hs _ (List.getElem_mem hi)), Option.bind_some]
   simp only [hc', decide_true, if_true, idx_nat hi, Option.bind_some, hk1]
   rw [hdrop]
   simp only [List.all_cons]
   by_cases hck : checkP keys[i] = true
   ·simp only [hck, Bool.not_true, Bool.false_eq_true, if_false, Option.bind_some, w2, Bool.true_and]
    exact keys_loop hN hk hs d (i + 1) M (by omega) (by omega)
   ·have hck := Bool.eq_false_iff.2 hck
    simp only [hck, Bool.not_false, if_true, Option.bind_some, Bool.false_and]
    exact ⟨_, rfl, .inr ⟨trivial, i, rfl⟩⟩
def divideP (x : Ixx) (keys : List Ky) (b : Bool) : List Int × Int :=
 if checkX x = true ∧ keys.all checkP = true then (selB b 0 (marksL x.1 keys (List.replicate x.2.toNat false)), 0) else ([], 1)
theorem divide_eq {N : Nat} (hN : 3000000 < N) {x : Ixx} (hx : SmallX x) {keys : List Ky} (hk : keys.length ≤ 1000000) (hs : ∀ k ∈ keys, k.2.1.size ≤ 1048576) (b : Bool) : index_divide N x keys b = some (divideP x keys b) := by
 have h0 := Check_eq hN hx
 simp only [index_divide, divideP]
 rw [show index_Check N (x.1, x.2) = some (checkX x) from h0]
 cases hck : checkX x with
 | false => rfl
 | true =>
  have hw := checkX_iff.1 hck
  obtain ⟨o, e1, e2⟩ := keys_loop hN hk hs keys.length 0 N (by omega) (by omega)
  have e1' : loopM (index_divide_L1 N keys) N 0 = some o := e1
  rw [List.drop_zero] at e2
  simp only [Option.bind_some, Bool.not_true, Bool.false_eq_true, if_false, e1', true_and]
  rcases e2 with ⟨e2, rfl⟩ | ⟨e2, j, rfl⟩
  ·have e : ¬ ((-1 : Int) ≥ 0) := by omega
   have hm : makeA 1 false x.2 = some (List.replicate x.2.toNat false) := by
    have hmx : (maxLen : Nat) = 9223372036854775807 := rfl
    have h1 := hw.1
    unfold makeA; rw [if_pos ⟨h1.1, by omega, by omega⟩]
   have hlen : (List.replicate x.2.toNat false).length = x.2.toNat := List.length_replicate
   have h1 := hw.1
   have hmk : loopM (index_divide_L2 N x keys) N (0, List.replicate x.2.toNat false) = some (marksL x.1 keys (List.replicate x.2.toNat false)) := marks_loop hN hx hw hk keys.length 0 N _ (by omega) (by omega) (by rw [hlen]; omega)
   have hml := marksL_len x.1 keys (List.replicate x.2.toNat false)
   have hsl : loopM (index_divide_L4 N x b (marksL x.1 keys (List.replicate x.2.toNat false))) N (([] : List Int), 0) = some (selB b 0 (marksL x.1 keys (List.replicate x.2.toNat false))) := sel_loop (by rw [hml, hlen]; omega) (by rw [hml, hlen]; omega) _ 0 N [] (Nat.zero_add _) (by rw [hml, hlen]; omega) (Nat.le_refl _)
   simp only [Option.bind_some, e, decide_false, Bool.false_eq_true, if_false, e2, if_true, hm, hmk, hsl]
  ·have : (j : Int) ≥ 0 := by omega
   simp only [Option.bind_some, this, decide_true, if_true, e2, Bool.false_eq_true, if_false]
theorem Affected_eq {N : Nat} (hN : 3000000 < N) {x : Ixx} (hx : SmallX x) {keys : List Ky} (hk : keys.length ≤ 1000000) (hs : ∀ k ∈ keys, k.2.1.size ≤ 1048576) : index_Affected N (x.1, x.2) keys = some (divideP x keys true) := by
 simp only [index_Affected]
 rw [show index_divide N (x.1, x.2) keys true = some (divideP x keys true) from divide_eq hN hx hk hs true]
 rfl
theorem Unaffected_eq {N : Nat} (hN : 3000000 < N) {x : Ixx} (hx : SmallX x) {keys : List Ky} (hk : keys.length ≤ 1000000) (hs : ∀ k ∈ keys, k.2.1.size ≤ 1048576) : index_Unaffected N (x.1, x.2) keys = some (divideP x keys false) := by
 simp only [index_Unaffected]
 rw [show index_divide N (x.1, x.2) keys false = some (divideP x keys false) from divide_eq hN hx hk hs false]
 rfl
end Go.Proofs.YtgggihpbhmbjaaaDoor
