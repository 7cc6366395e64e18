/- The index: it grows by a record; what grows stays well-formed. No condition. -/
import Derived.Test.YtgggihpbhmbjaaaDoorIdxAk3
namespace Go.Proofs.YtgggihpbhmbjaaaDoor
open Go Go.Dc Go.Sort Go.Proofs
def mergeF : Nat → List Pst → List Ky → Int → List Pst
 | 0, _, _, _ => []
 | _ + 1, [], [], _ => []
 | d + 1, [], k :: K, n => (k, [n]) :: mergeF d [] K n
 | d + 1, p :: L, [], n => p :: mergeF d L [] n
 | d + 1, p :: L, k :: K, n => if cK p.1 k < 0 then p :: mergeF d L (k :: K) n else if p.1 = k then (k, p.2 ++ [n]) :: mergeF d L K n else (k, [n]) :: mergeF d (p :: L) K n
theorem clone_eq {N : Nat} {R : List Int} (h : R.length ≤ 2000000) : slices_Clone_int_int N R = some R := by
 unfold slices_Clone_int_int
 cases R with
 | nil => rfl
 | cons r R =>
  simp only [nilS]
  rw [appendS_some (by simp only [List.length_cons, List.length_nil] at *; omega) (by decide)]
  rfl
theorem len_pos {α : Type} (a : α) (l : List α) : ((List.length (a :: l) : Int) > 0) ∧ ((List.length (a :: l) : Int) == 0) = false := by
 simp only [List.length_cons, beq_eq_false_iff_ne]
 omega
theorem tail_sub {α : Type} (a : α) (l : List α) : subS (a :: l) 1 (List.length (a :: l) : Int) = some l := by
 rw [subS_some (by omega) (by simp only [List.length_cons]; omega) (Int.le_refl _)]
 simp
theorem idx_0 {α : Type} (a : α) (l : List α) : idx (a :: l) 0 = some a := rfl
section
variable {N : Nat} {x : Ixx} {L : List Pst} {K : List Ky} {out : List Pst} {p : Pst} {k : Ky}
theorem n1 {α : Type} : decide ((List.length ([] : List α) : Int) > 0) = false := rfl
theorem n2 {α : Type} : ((List.length ([] : List α) : Int) == 0) = true := rfl
theorem step_nn : index_grown_L1 N x ([], [], out) = some (.inr (.inl ([], [], out))) := rfl
theorem step_nc (ho : out.length ≤ 10000000) : index_grown_L1 N x (k :: K, [], out) = some (.inl (K, [], out ++ [(k, [x.2])])) := by
 have h := len_pos k K
 simp only [index_grown_L1, n1, n2, h.1, decide_true, Bool.false_eq_true, if_false, if_true, idx_0, tail_sub, Option.bind_some]
 rw [if_neg (by decide)]
 simp only [Option.bind_some]
 rw [if_pos (by decide)]
 rw [appendS_some (l := ([] : List Int)) (by simp) (by decide)]
 simp only [Option.bind_some]
 rw [appendS_some (l := out) (by simp only [List.length_cons, List.length_nil]; omega) (by decide)]
 rfl
theorem step_cn (ho : out.length ≤ 10000000) (hp : p.2.length ≤ 2000000) : index_grown_L1 N x ([], p :: L, out) = some (.inl ([], L, out ++ [p])) := by
 have h := len_pos p L
 simp only [index_grown_L1, n1, n2, h.1, h.2, decide_true, Bool.false_eq_true, if_false, if_true, idx_0, tail_sub, Option.bind_some, clone_eq hp]
 rw [if_pos (by decide)]
 simp only [Option.bind_some]
 rw [if_neg (by decide)]
 simp only [Option.bind_some]
 rw [appendS_some (l := out) (by simp only [List.length_cons, List.length_nil]; omega) (by decide)]
 rfl
theorem step_cc (hN : 3000000 < N) (ho : out.length ≤ 10000000) (hp : p.2.length ≤ 2000000) : index_grown_L1 N x (k :: K, p :: L, out) =
  some (.inl (if cK p.1 k < 0 then (k :: K, L, out ++ [p]) else if p.1 = k then (K, L, out ++ [(k, p.2 ++ [x.2])]) else (K, p :: L, out ++ [(k, [x.2])]))) := by
 have h := len_pos p L
 have h' := len_pos k K
 have hz := cK_lin.zero p.1 k
 have hc := Compare_eq (N := N) hN p.1 k
 simp only [index_grown_L1, h.1, h.2, h'.2, decide_true, if_true, Bool.false_eq_true, if_false, idx_0, tail_sub, Option.bind_some, clone_eq hp, hc]
 by_cases h1 : cK p.1 k < 0
 ·have h2 : cK p.1 k ≤ 0 := by omega
  have h3 : ¬ cK p.1 k ≥ 0 := by omega
  simp only [h1, h2, h3, decide_true, decide_false, if_true, Bool.false_eq_true, if_false, Option.bind_some]
  rw [appendS_some (l := out) (by simp only [List.length_cons, List.length_nil]; omega) (by decide)]
  rfl
 ·by_cases h4 : p.1 = k
  ·have e := hz.2 h4
   have h2 : cK p.1 k ≤ 0 := by omega
   have h3 : cK p.1 k ≥ 0 := by omega
   subst h4
   simp only [h1, h2, h3, decide_true, if_true, if_false, Option.bind_some]
   rw [appendS_some (l := p.2) (by simp only [List.length_cons, List.length_nil]; omega) (by decide)]
   simp only [Option.bind_some]
   rw [appendS_some (l := out) (by simp only [List.length_cons, List.length_nil]; omega) (by decide)]
   rfl
  ·have hne : cK p.1 k ≠ 0 := fun g => h4 (hz.1 g)
   have h2 : ¬ cK p.1 k ≤ 0 := by omega
   have h3 : cK p.1 k ≥ 0 := by omega
   simp only [h1, h2, h3, h4, decide_true, decide_false, if_true, Bool.false_eq_true, if_false, Option.bind_some]
   rw [appendS_some (l := ([] : List Int)) (by simp) (by decide)]
   simp only [Option.bind_some]
   rw [appendS_some (l := out) (by simp only [List.length_cons, List.length_nil]; omega) (by decide)]
   rfl
end
theorem merge_loop {N : Nat} (hN : 3000000 < N) {x : Ixx} : ∀ (d M : Nat) (L : List Pst) (K : List Ky) (out : List Pst), L.length + K.length ≤ d → d < M → out.length + d ≤ 10000000 → (∀ p ∈ L, p.2.length ≤ 2000000) →
  loopM (index_grown_L1 N x) M (K, L, out) = some (.inl ([], [], out ++ mergeF d L K x.2))
 | d, 0, _, _, _, _, h, _, _ => absurd h (Nat.not_lt_zero _)
 | 0, M + 1, L, K, out, h1, _, _, _ => by
  have e1 : L = [] := List.eq_nil_of_length_eq_zero (by omega)
  have e2 : K = [] := List.eq_nil_of_length_eq_zero (by omega)
  subst e1; subst e2
  simp only [loopM, step_nn, Option.bind_some, mergeF, List.append_nil]
 | d + 1, M + 1, [], [], out, _, _, _, _ => by simp only [loopM, step_nn, Option.bind_some, mergeF, List.append_nil]
 | d + 1, M + 1, [], k :: K, out, h1, h2, h3, h4 => by
  simp only [loopM]
  rw [step_nc (by omega)]
  simp only [Option.bind_some, mergeF]
  rw [merge_loop hN d M [] K _ (by simp only [List.length_cons, List.length_nil] at *; omega) (by omega) (by simp only [List.length_append, List.length_cons, List.length_nil]; omega) h4, List.append_assoc]; rfl
 | d + 1, M + 1, p :: L, [], out, h1, h2, h3, h4 => by
  simp only [loopM]
  rw [step_cn (by omega) (h4 p (List.mem_cons_self ..))]
  simp only [Option.bind_some, mergeF]
  rw [merge_loop hN d M L [] _ (by simp only [List.length_cons, List.length_nil] at *; omega) (by omega) (by simp only [List.length_append, List.length_cons, List.length_nil]; omega) (fun q hq => h4 q (List.mem_cons_of_mem _ hq)), List.append_assoc]; rfl
 | d + 1, M + 1, p :: L, k :: K, out, h1, h2, h3, h4 => by
  have h4' : ∀ q ∈ L, q.2.length ≤ 2000000 := fun q hq => h4 q (List.mem_cons_of_mem _ hq)
  simp only [loopM]
  rw [step_cc hN (by omega) (h4 p (List.mem_cons_self ..))]
  simp only [Option.bind_some, mergeF]
  by_cases g1 : cK p.1 k < 0
  ·simp only [g1, if_true]
   rw [merge_loop hN d M L (k :: K) _ (by simp only [List.length_cons] at *; omega) (by omega) (by simp only [List.length_append, List.length_cons, List.length_nil]; omega) h4', List.append_assoc]; rfl
  ·by_cases g2 : p.1 = k
   ·simp only [g1, g2, if_true, if_false]
    rw [if_neg (by rw [← g2]; have := (cK_lin.zero p.1 p.1).2 rfl; omega)]
    rw [merge_loop hN d M L K _ (by simp only [List.length_cons] at *; omega) (by omega) (by simp only [List.length_append, List.length_cons, List.length_nil]; omega) h4', List.append_assoc]
    rw [if_neg (by have := (cK_lin.zero k k).2 rfl; omega)]; rfl
   ·simp only [g1, g2, if_false]
    rw [merge_loop hN d M (p :: L) K _ (by simp only [List.length_cons] at *; omega) (by omega) (by simp only [List.length_append, List.length_cons, List.length_nil]; omega) h4, List.append_assoc]; rfl
def recKeys (c : Rcd) : List Ky := c.2.2.2.2.2.2.map (·.1)
def grownP (x : Ixx) (c : Rcd) : Ixx := (mergeF (x.1.length + (canon (recKeys c)).length) x.1 (canon (recKeys c)) x.2, x.2 + 1)
theorem recKeys_loop {N : Nat} {c : Rcd} (hl : c.2.2.2.2.2.2.length ≤ 2000000) : ∀ (d i M : Nat) (S : List Ky), i + d = c.2.2.2.2.2.2.length → d < M → S.length ≤ i →
  loopM (record_Keys_L1 N c) M (S, (i : Int)) = some (S ++ (c.2.2.2.2.2.2.drop i).map (·.1))
 | _, _, 0, _, _, h, _ => absurd h (Nat.not_lt_zero _)
 | d, i, M + 1, S, h1, h2, h3 => by
  simp only [loopM, record_Keys_L1]
  cases d with
  | zero =>
   have hc : ¬ ((i : Int) < (c.2.2.2.2.2.2.length : Int)) := by omega
   simp only [hc, decide_false, Bool.false_eq_true, if_false, Option.bind_some]
   rw [List.drop_of_length_le (by omega)]; simp
  | succ d =>
   have hi : i < c.2.2.2.2.2.2.length := by omega
   have hc : ((i : Int) < (c.2.2.2.2.2.2.length : Int)) := by omega
   have w2 : IntKind.wrap .i64 ((i : Int) + 1) = ((i + 1 : Nat) : Int) := by rw [wi64 (by omega) (by omega)]; omega
   have hdrop : c.2.2.2.2.2.2.drop i = c.2.2.2.2.2.2[i] :: c.2.2.2.2.2.2.drop (i + 1) := (List.getElem_cons_drop hi).symm
   simp only [hc, decide_true, if_true, idx_nat hi, Option.bind_some]
   rw [appendS_some (by simp only [List.length_cons, List.length_nil]; omega) (by decide)]
   simp only [Option.bind_some, w2]
   rw [recKeys_loop hl d (i + 1) M _ (by omega) (by omega) (by simp only [List.length_append, List.length_cons, List.length_nil]; omega), hdrop, List.append_assoc, List.map_cons]; rfl
theorem recKeys_eq {N : Nat} (hN : 3000000 < N) {c : Rcd} (hl : c.2.2.2.2.2.2.length ≤ 2000000) : record_Keys N c = some (recKeys c) := by
 have h1 : loopM (record_Keys_L1 N c) N (([] : List Ky), 0) = _ := recKeys_loop hl c.2.2.2.2.2.2.length 0 N [] (by omega) (by omega) (Nat.le_refl _)
 simp only [record_Keys, h1, Option.bind_some, List.nil_append, List.drop_zero]
 rfl
theorem grown_eq {N : Nat} (hN : 3000000 < N) {x : Ixx} {c : Rcd} (hc : c.2.2.2.2.2.2.length ≤ 900000) (hx : x.1.length ≤ 1500000) (hr : ∀ p ∈ x.1, p.2.length ≤ 2000000) (hn : 0 ≤ x.2 ∧ x.2 ≤ 512) : index_grown N x c = some (grownP x c) := by
 have hk : (recKeys c).length = c.2.2.2.2.2.2.length := List.length_map ..
 have h2 : fact_Set N (recKeys c) = some (canon (recKeys c)) := fact_Set_law (by omega) (by omega)
 have hcl := canon_len (recKeys c)
 have h3 : loopM (index_grown_L1 N x) N (canon (recKeys c), x.1, ([] : List Pst)) = _ := merge_loop hN (x.1.length + (canon (recKeys c)).length) N x.1 (canon (recKeys c)) [] (Nat.le_refl _) (by omega) (by simp only [List.length_nil]; omega) hr
 have w : IntKind.wrap .i64 (x.2 + 1) = x.2 + 1 := wi64 (by omega) (by omega)
 simp only [index_grown]
 rw [show record_Keys N ((c.1.1, c.1.2), c.2.1, c.2.2.1, c.2.2.2.1, (c.2.2.2.2.1.1, c.2.2.2.2.1.2.1, c.2.2.2.2.1.2.2), c.2.2.2.2.2.1, c.2.2.2.2.2.2) = some (recKeys c) from recKeys_eq (c := c) hN (by omega)]
 simp only [Option.bind_some, h2, h3, w, List.nil_append]
 rfl
theorem RecOK.up {n : Int} {R : List Int} (h : RecOK n R) : RecOK (n + 1) R := ⟨fun r hr => by have := h.1 r hr; omega, h.2⟩
theorem RecOK.snoc {n : Int} {R : List Int} (h0 : 0 ≤ n) (h : RecOK n R) : RecOK (n + 1) (R ++ [n]) := by
 refine ⟨fun r hr => ?_, List.pairwise_append.2 ⟨h.2, List.pairwise_singleton _ _, fun a ha b hb => ?_⟩⟩
 ·rcases List.mem_append.1 hr with hr | hr
  ·have := h.1 r hr; omega
  ·simp only [List.mem_cons, List.not_mem_nil, or_false] at hr; omega
 ·simp only [List.mem_cons, List.not_mem_nil, or_false] at hb
  have := h.1 a ha; omega
theorem RecOK.one {n : Int} (h0 : 0 ≤ n) : RecOK (n + 1) [n] := ⟨fun r hr => by simp only [List.mem_cons, List.not_mem_nil, or_false] at hr; omega, List.pairwise_singleton _ _⟩
theorem mergeF_all {n : Int} {P Q : Pst → Prop} {R : Ky → Prop} (h1 : ∀ p, P p → Q p) (h2 : ∀ p, P p → R p.1 → Q (p.1, p.2 ++ [n])) (h3 : ∀ k, R k → Q (k, [n])) : ∀ (d : Nat) (L : List Pst) (K : List Ky), (∀ p ∈ L, P p) → (∀ k ∈ K, R k) → ∀ q ∈ mergeF d L K n, Q q
 | 0, _, _, _, _, q, hq => by simp [mergeF] at hq
 | _ + 1, [], [], _, _, q, hq => by simp [mergeF] at hq
 | d + 1, [], k :: K, a, b, q, hq => by
  simp only [mergeF, List.mem_cons] at hq
  rcases hq with rfl | hq
  ·exact h3 k (b k (List.mem_cons_self ..))
  ·exact mergeF_all h1 h2 h3 d [] K a (fun z hz => b z (List.mem_cons_of_mem _ hz)) q hq
 | d + 1, p :: L, [], a, b, q, hq => by
  simp only [mergeF, List.mem_cons] at hq
  rcases hq with rfl | hq
  ·exact h1 _ (a _ (List.mem_cons_self ..))
  ·exact mergeF_all h1 h2 h3 d L [] (fun z hz => a z (List.mem_cons_of_mem _ hz)) b q hq
 | d + 1, p :: L, k :: K, a, b, q, hq => by
  have a' : ∀ z ∈ L, P z := fun z hz => a z (List.mem_cons_of_mem _ hz)
  have b' : ∀ z ∈ K, R z := fun z hz => b z (List.mem_cons_of_mem _ hz)
  simp only [mergeF] at hq
  split at hq
  ·rcases List.mem_cons.1 hq with rfl | hq
   ·exact h1 _ (a _ (List.mem_cons_self ..))
   ·exact mergeF_all h1 h2 h3 d L (k :: K) a' b q hq
  ·split at hq
   ·rename_i e
    subst e
    rcases List.mem_cons.1 hq with rfl | hq
    ·exact h2 p (a p (List.mem_cons_self ..)) (b _ (List.mem_cons_self ..))
    ·exact mergeF_all h1 h2 h3 d L K a' b' q hq
   ·rcases List.mem_cons.1 hq with rfl | hq
    ·exact h3 k (b k (List.mem_cons_self ..))
    ·exact mergeF_all h1 h2 h3 d (p :: L) K a b' q hq
theorem mergeF_above {n : Int} {b : Ky} {d : Nat} {L : List Pst} {K : List Ky} (hL : ∀ p ∈ L, cK b p.1 < 0) (hK : ∀ k ∈ K, cK b k < 0) : ∀ q ∈ mergeF d L K n, cK b q.1 < 0 :=
 mergeF_all (P := fun p => cK b p.1 < 0) (Q := fun p => cK b p.1 < 0) (R := fun k => cK b k < 0) (fun _ h => h) (fun _ h _ => h) (fun _ h => h) d L K hL hK
theorem mergeF_asc {n : Int} : ∀ (d : Nat) (L : List Pst) (K : List Ky), Asc L → Strict cK K → Asc (mergeF d L K n)
 | 0, _, _, _, _ => List.Pairwise.nil
 | _ + 1, [], [], _, _ => List.Pairwise.nil
 | d + 1, [], k :: K, a, b => by
  have b' := List.pairwise_cons.1 b
  simp only [mergeF]
  exact List.pairwise_cons.2 ⟨mergeF_above (by simp) b'.1, mergeF_asc d [] K a b'.2⟩
 | d + 1, p :: L, [], a, b => by
  have a' := List.pairwise_cons.1 a
  simp only [mergeF]
  exact List.pairwise_cons.2 ⟨mergeF_above a'.1 (by simp), mergeF_asc d L [] a'.2 b⟩
 | d + 1, p :: L, k :: K, a, b => by
  have a' := List.pairwise_cons.1 a
  have b' := List.pairwise_cons.1 b
  simp only [mergeF]
  split
  ·rename_i h
   refine List.pairwise_cons.2 ⟨mergeF_above a'.1 (fun z hz => ?_), mergeF_asc d L (k :: K) a'.2 b⟩
   rcases List.mem_cons.1 hz with rfl | hz
   ·exact h
   ·exact cK_lin.trans _ _ _ h (b'.1 z hz)
  ·rename_i h
   split
   ·rename_i e
    subst e
    exact List.pairwise_cons.2 ⟨mergeF_above a'.1 b'.1, mergeF_asc d L K a'.2 b'.2⟩
   ·rename_i hne
    have hk : cK k p.1 < 0 := by
     have a1 := cK_lin.zero p.1 k; have a2 := cK_lin.anti k p.1
     refine a2.2 ?_
     have : cK p.1 k ≠ 0 := fun g => hne (a1.1 g)
     omega
    refine List.pairwise_cons.2 ⟨mergeF_above (fun z hz => ?_) b'.1, mergeF_asc d (p :: L) K a b'.2⟩
    rcases List.mem_cons.1 hz with rfl | hz
    ·exact hk
    ·exact cK_lin.trans _ _ _ hk (a'.1 z hz)
theorem mergeF_len {n : Int} : ∀ (d : Nat) (L : List Pst) (K : List Ky), (mergeF d L K n).length ≤ d
 | 0, _, _ => Nat.le_refl _
 | _ + 1, [], [] => Nat.zero_le _
 | d + 1, [], k :: K => by have := mergeF_len (n := n) d [] K; simp only [mergeF, List.length_cons]; omega
 | d + 1, p :: L, [] => by have := mergeF_len (n := n) d L []; simp only [mergeF, List.length_cons]; omega
 | d + 1, p :: L, k :: K => by
  have h1 := mergeF_len (n := n) d L (k :: K); have h2 := mergeF_len (n := n) d L K; have h3 := mergeF_len (n := n) d (p :: L) K
  simp only [mergeF]
  split
  ·simp only [List.length_cons]; omega
  ·split <;> (simp only [List.length_cons]; omega)
theorem grown_well {x : Ixx} {c : Rcd} (hx : WellX x) (hlt : x.2 < 512) (hc : ∀ k ∈ recKeys c, checkP k = true) : WellX (grownP x c) := by
 obtain ⟨h0, h1, h2⟩ := hx
 have hn : (grownP x c).2 = x.2 + 1 := rfl
 refine ⟨by omega, ?_, mergeF_asc _ _ _ h2 (canon_strict _)⟩
 rw [hn]
 refine mergeF_all (P := PostOK x.2) (Q := PostOK (x.2 + 1)) (R := fun k => checkP k = true) ?_ ?_ ?_ _ _ _ h1 (fun k hk => hc k (canon_mem.1 hk))
 ·rintro p ⟨a, b, r⟩; exact ⟨a, b, r.up⟩
 ·rintro p ⟨a, b, r⟩ _; exact ⟨a, by simp, r.snoc h0.1⟩
 ·intro k hk; exact ⟨hk, by simp, RecOK.one h0.1⟩
end Go.Proofs.YtgggihpbhmbjaaaDoor
