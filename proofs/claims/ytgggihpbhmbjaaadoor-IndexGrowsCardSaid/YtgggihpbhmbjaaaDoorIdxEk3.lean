/- IndexGrows: records that are added one after the other make the index that is built of all of them; affected and other records together are all. No condition. -/
import Derived.Test.YtgggihpbhmbjaaaDoorIdxDk3
namespace Go.Proofs.YtgggihpbhmbjaaaDoor
open Go Go.Dc Go.Sort Go.Proofs
theorem ints_loop {N : Nat} {L : List Int} (hl : L.length < 2000000) : ∀ (d i M : Nat), i + d = L.length → d < M → loopM (testgateref18_Ints_L1 N L L) M (i : Int) = some (.inl ())
 | _, _, 0, _, h => absurd h (Nat.not_lt_zero _)
 | d, i, M + 1, h1, h2 => by
  simp only [loopM, testgateref18_Ints_L1]
  cases d with
  | zero =>
   have hc : ¬ ((i : Int) < (L.length : Int)) := by omega
   simp only [hc, decide_false, Bool.false_eq_true, if_false, Option.bind_some]
  | succ d =>
   have hi : i < L.length := by omega
   have hc : ((i : Int) < (L.length : Int)) := by omega
   have w2 : IntKind.wrap .i64 ((i : Int) + 1) = ((i + 1 : Nat) : Int) := by rw [wi64 (by omega) (by omega)]; omega
   simp only [hc, decide_true, if_true, idx_nat hi, Option.bind_some, bne_self_eq_false, Bool.false_eq_true, if_false, w2]
   exact ints_loop hl d (i + 1) M (by omega) (by omega)
theorem ints_refl {N : Nat} {L : List Int} (hl : L.length < 2000000) (hN : L.length < N) : testgateref18_Ints N L L = some true := by
 have h1 : loopM (testgateref18_Ints_L1 N L L) N 0 = some (.inl ()) := ints_loop hl L.length 0 N (by omega) hN
 simp only [testgateref18_Ints, bne_self_eq_false, Bool.false_eq_true, if_false, h1, Option.bind_some]
theorem sints_loop {N : Nat} {L : List Int} (hl : L.length < 2000000) : ∀ (d i M : Nat), i + d = L.length → d < M → loopM (testgatemake_SameInts_L1 N L L) M (i : Int) = some (.inl ())
 | _, _, 0, _, h => absurd h (Nat.not_lt_zero _)
 | d, i, M + 1, h1, h2 => by
  simp only [loopM, testgatemake_SameInts_L1]
  cases d with
  | zero =>
   have hc : ¬ ((i : Int) < (L.length : Int)) := by omega
   simp only [hc, decide_false, Bool.false_eq_true, if_false, Option.bind_some]
  | succ d =>
   have hi : i < L.length := by omega
   have hc : ((i : Int) < (L.length : Int)) := by omega
   have w2 : IntKind.wrap .i64 ((i : Int) + 1) = ((i + 1 : Nat) : Int) := by rw [wi64 (by omega) (by omega)]; omega
   simp only [hc, decide_true, if_true, idx_nat hi, Option.bind_some, bne_self_eq_false, Bool.false_eq_true, if_false, w2]
   exact sints_loop hl d (i + 1) M (by omega) (by omega)
theorem sints_refl {N : Nat} {L : List Int} (hl : L.length < 2000000) (hN : L.length < N) : testgatemake_SameInts N L L = some true := by
 have h1 : loopM (testgatemake_SameInts_L1 N L L) N 0 = some (.inl ()) := sints_loop hl L.length 0 N (by omega) hN
 simp only [testgatemake_SameInts, bne_self_eq_false, Bool.false_eq_true, if_false, h1, Option.bind_some]
theorem sameX_loop {N : Nat} (hN : 3000000 < N) {x : Ixx} (hx : SmallX x) : ∀ (d i M : Nat), i + d = x.1.length → d < M → loopM (testgateref18_Same_L1 N x x) M (i : Int) = some (.inl ())
 | _, _, 0, _, h => absurd h (Nat.not_lt_zero _)
 | d, i, M + 1, h1, h2 => by
  have hl := hx.1
  simp only [loopM, testgateref18_Same_L1]
  cases d with
  | zero =>
   have hc : ¬ ((i : Int) < (x.1.length : Int)) := by omega
   simp only [hc, decide_false, Bool.false_eq_true, if_false, Option.bind_some]
  | succ d =>
   have hi : i < x.1.length := by omega
   have hc : ((i : Int) < (x.1.length : Int)) := by omega
   have w2 : IntKind.wrap .i64 ((i : Int) + 1) = ((i + 1 : Nat) : Int) := by rw [wi64 (by omega) (by omega)]; omega
   have hs := hx.2 x.1[i] (List.getElem_mem hi)
   simp only [hc, decide_true, if_true, idx_nat hi, Option.bind_some, keyEq, Bool.not_true, Bool.false_eq_true, if_false, ints_refl (N := N) (L := x.1[i].2) (by omega) (by omega), w2]
   exact sameX_loop hN hx d (i + 1) M (by omega) (by omega)
theorem sameX_refl {N : Nat} (hN : 3000000 < N) {x : Ixx} (hx : SmallX x) : testgateref18_Same N (x.1, x.2) (x.1, x.2) = some true := by
 have hl := hx.1
 have h1 : loopM (testgateref18_Same_L1 N (x.1, x.2) (x.1, x.2)) N 0 = some (.inl ()) := sameX_loop hN hx x.1.length 0 N (by omega) (by omega)
 simp only [testgateref18_Same, bne_self_eq_false, Bool.false_eq_true, if_false, h1, Option.bind_some]
theorem fold_ok : ∀ (L : List Rcd) (i : Nat) (x : Ixx), InvX i x → WellX x → i + L.length ≤ 512 → (∀ c ∈ L, SmallR c) → L.all wellC = true → InvX (i + L.length) (L.foldl grownP x) ∧ WellX (L.foldl grownP x)
 | [], i, x, h1, h2, _, _, _ => ⟨h1, h2⟩
 | c :: L, i, x, h1, h2, h3, h4, h5 => by
  simp only [List.all_cons, Bool.and_eq_true] at h5
  simp only [List.length_cons] at h3
  have hlt : x.2 < 512 := by have := h1.1; omega
  have := fold_ok L (i + 1) (grownP x c) (grown_inv h1 (h4 c (List.mem_cons_self ..))) (grown_well h2 hlt (wellC_keys h5.1)) (by omega) (fun d hd => h4 d (List.mem_cons_of_mem _ hd)) h5.2
  simp only [List.length_cons, List.foldl_cons]
  rw [show i + (L.length + 1) = i + 1 + L.length by omega]
  exact this
theorem grows_loop {N : Nat} (hN : 3000000 < N) {t : List Int × Int} {l : List Rcd} (hl : l.length ≤ 512) (hL : ∀ c ∈ l, SmallR c) (hw : l.all wellC = true) : ∀ (d i M : Nat) (x : Ixx), i + d = l.length → d < M → InvX i x → WellX x →
  loopM (testgatelaw18_IndexGrows_L1 N (t, l)) M ((i : Int), x.1, x.2) = some (.inl ((l.drop i).foldl grownP x))
 | _, _, 0, _, _, h, _, _ => absurd h (Nat.not_lt_zero _)
 | d, i, M + 1, x, h1, h2, h3, h4 => by
  simp only [loopM, testgatelaw18_IndexGrows_L1]
  cases d with
  | zero =>
   have hc : ¬ ((i : Int) < (l.length : Int)) := by omega
   simp only [hc, decide_false, Bool.false_eq_true, if_false, Option.bind_some]
   rw [List.drop_of_length_le (by omega)]; rfl
  | succ d =>
   have hi : i < l.length := by omega
   have hc' : ((i : Int) < (l.length : Int)) := by omega
   have w2 : IntKind.wrap .i64 ((i : Int) + 1) = ((i + 1 : Nat) : Int) := by rw [wi64 (by omega) (by omega)]; omega
   have hdrop : l.drop i = l[i] :: l.drop (i + 1) := (List.getElem_cons_drop hi).symm
   have hci := hL _ (List.getElem_mem hi)
   have hwi := List.all_eq_true.1 hw _ (List.getElem_mem hi)
   have hlt : x.2 < 512 := by have := h3.1; omega
   simp only [hc', decide_true, if_true, idx_nat hi, Option.bind_some]
   rw [Add_eq hN (by omega) h3 h4 hci hwi]
   simp only [Option.bind_some, bne_self_eq_false, Bool.false_eq_true, if_false, w2]
   rw [grows_loop hN hl hL hw d (i + 1) M (grownP x l[i]) (by omega) (by omega) (grown_inv h3 hci) (grown_well h4 hlt (wellC_keys hwi)), hdrop]
   rfl
theorem made_size {k : Ky} (h : k ∈ madeL) : k.2.1.size < 100 ∧ checkP k = true := by
 have h := List.all_eq_true.1 made_checkP k h
 simp only [Bool.and_eq_true, decide_eq_true_eq] at h
 exact ⟨h.2, h.1⟩
theorem records_ok {N : Nat} (hN : 3000000 < N) {l : List Int} {a : Int} (h0 : 0 ≤ a) (h1 : a ≤ 1000000) : Ok (testgatelaw18_records N (l, a)) fun y => ∃ a' L, y = ((l, a'), L) ∧ a ≤ a' ∧ a' ≤ a + 200 ∧ L.length ≤ 6 ∧ ∀ c ∈ L, SmallR c := by
 unfold testgatelaw18_records
 refine Ok.next h0 (by omega) (by decide) (by decide) fun r r0 r1 => ?_
 refine Ok.loop (fun s => s.2.2.1 = l ∧ a ≤ s.2.2.2 ∧ s.2.2.2 + 20 * s.2.1 ≤ a + 140 ∧ 0 ≤ s.2.1 ∧ s.2.1 + s.1.length ≤ 6 ∧ ∀ c ∈ s.1, SmallR c) (fun s => s.2.1.toNat) (fun b => b.1.length ≤ 6 ∧ (∀ c ∈ b.1, SmallR c) ∧ b.2.1 = l ∧ a ≤ b.2.2 ∧ b.2.2 ≤ a + 140)
  (fun s hs => ?_) ⟨rfl, by simp only; omega, by simp only; omega, r0, by simp only [List.length_nil]; omega, fun c hc => by simp at hc⟩ (by simp only; omega) fun b hb => ?_
 ·obtain ⟨S, i, t, z⟩ := s
  obtain ⟨g1, g2, g3, g4, g5, g6⟩ := hs
  simp only at g1 g2 g3 g4 g5 g6
  subst g1
  unfold testgatelaw18_records_L1
  refine Ok.ite (fun hc => ?_) fun hc => Ok.mk ⟨by simp only; omega, g6, rfl, g2, by simp only; omega⟩
  have hc := of_decide_eq_true hc
  simp only at hc
  refine Ok.next (by simp only; omega) (by simp only; omega) (by decide) (by decide) fun q q0 q1 => ?_
  refine Ok.loop (fun s => s.2.2.1 = t ∧ z + 1 ≤ s.2.2.2 ∧ s.2.2.2 + 3 * s.2.1 ≤ z + 13 ∧ 0 ≤ s.2.1 ∧ s.2.1 + s.1.length ≤ 4 ∧ ∀ k ∈ s.1, k ∈ madeL) (fun s => s.2.1.toNat) (fun b => b.1.length ≤ 4 ∧ (∀ k ∈ b.1, k ∈ madeL) ∧ b.2.1 = t ∧ z + 1 ≤ b.2.2 ∧ b.2.2 ≤ z + 13)
   (fun s hs => ?_) ⟨rfl, Int.le_refl _, by simp only; omega, q0, by simp only [List.length_nil]; omega, fun k hk => by simp at hk⟩ (by simp only; omega) fun b hb => ?_
  ·obtain ⟨S', i', t', z'⟩ := s
   obtain ⟨e1, e2, e3, e4, e5, e6⟩ := hs
   simp only at e1 e2 e3 e4 e5 e6
   subst e1
   unfold testgatelaw18_records_L2
   refine Ok.ite (fun hc => ?_) fun hc => Ok.mk ⟨by simp only; omega, e6, rfl, e2, by simp only; omega⟩
   have hc := of_decide_eq_true hc
   simp only at hc
   refine Ok.bind (Key_ok (l := t') (a := z') (by omega) (by omega)) ?_
   rintro _ ⟨a2, k, rfl, f1, f2, f3⟩
   refine Ok.app (by simp only [List.length_cons, List.length_nil]; omega) (by decide) (Ok.mk ?_)
   have w : IntKind.wrap .i64 (i' - 1) = i' - 1 := wi64 (by omega) (by omega)
   refine ⟨⟨rfl, by simp only; omega, ?_, ?_, ?_, fun k' hk' => ?_⟩, ?_⟩
   ·simp only [w]; omega
   ·simp only [w]; omega
   ·simp only [w, List.length_append, List.length_cons, List.length_nil]; omega
   ·rcases List.mem_append.1 hk' with hk' | hk'
    ·exact e6 k' hk'
    ·simp only [List.mem_cons, List.not_mem_nil, or_false] at hk'; subst hk'; exact f3
   ·simp only [w]; omega
  ·obtain ⟨b1, b2, b3, b4, b5⟩ := hb
   rw [refSet_eq (by omega) (by omega)]
   simp only [Option.bind_some]
   have hcl := canon_len b.1
   have hcm : ∀ k ∈ canon b.1, k.2.1.size ≤ 1048576 := fun k hk => by have := (made_size (b2 k (canon_mem.1 hk))).1; omega
   generalize canon b.1 = C at hcl hcm
   refine Ok.loop (fun s => ∃ j : Nat, s.1 = (j : Int) ∧ j ≤ C.length ∧ s.2.1.length = j ∧ (∀ f ∈ s.2.1, f.1.2.1.size ≤ 1048576) ∧ s.2.2.1 = t ∧ z + 1 ≤ s.2.2.2 ∧ s.2.2.2 ≤ z + 13 + j) (fun s => C.length - s.1.toNat) (fun b => b.1.length ≤ 4 ∧ (∀ f ∈ b.1, f.1.2.1.size ≤ 1048576) ∧ b.2.1 = t ∧ z + 1 ≤ b.2.2 ∧ b.2.2 ≤ z + 17)
    (fun s hs => ?_) ⟨0, rfl, Nat.zero_le _, rfl, fun f hf => by simp at hf, b3, b4, by simp only; omega⟩ (by simp only [Int.toNat_zero]; omega) fun o ho => ?_
   ·obtain ⟨i', F, t', z'⟩ := s
    obtain ⟨j, e1, e2, e3, e4, e5, e6, e7⟩ := hs
    simp only at e1 e2 e3 e4 e5 e6 e7
    subst e1; subst e5
    unfold testgatelaw18_records_L3
    refine Ok.ite (fun hc => ?_) fun hc => Ok.mk ⟨by simp only; omega, e4, rfl, e6, by simp only; omega⟩
    have hc := of_decide_eq_true hc
    simp only at hc
    have hj : j < C.length := by omega
    simp only [idx_nat hj, Option.bind_some]
    refine Ok.next (by omega) (by omega) (by decide) (by decide) fun q' _ _ => ?_
    refine Ok.app (by simp only [List.length_cons, List.length_nil]; omega) (by decide) (Ok.mk ?_)
    have w : IntKind.wrap .i64 ((j : Int) + 1) = ((j + 1 : Nat) : Int) := by rw [wi64 (by omega) (by omega)]; omega
    refine ⟨⟨j + 1, w, hj, by simp only [List.length_append, List.length_cons, List.length_nil]; omega, fun f hf => ?_, rfl, by simp only; omega, by simp only; omega⟩, by simp only [w, Int.toNat_natCast]; omega⟩
    rcases List.mem_append.1 hf with hf | hf
    ·exact e4 f hf
    ·simp only [List.mem_cons, List.not_mem_nil, or_false] at hf
     subst hf
     exact hcm C[j] (List.getElem_mem hj)
   ·obtain ⟨o1, o2, o3, o4, o5⟩ := ho
    refine Ok.chance (by omega) (by omega) (by decide) (by decide) fun ch => ?_
    refine Ok.bind (P := fun F => F.length ≤ 5 ∧ ∀ f ∈ F, f.1.2.1.size ≤ 1048576) ?_ ?_
    ·refine Ok.ite (fun _ => ?_) fun _ => Ok.mk ⟨by omega, o2⟩
     refine Ok.app (by simp only [List.length_cons, List.length_nil]; omega) (by decide) (Ok.mk ⟨by simp only [List.length_append, List.length_cons, List.length_nil]; omega, fun f hf => ?_⟩)
     rcases List.mem_append.1 hf with hf | hf
     ·exact o2 f hf
     ·simp only [List.mem_cons, List.not_mem_nil, or_false] at hf
      subst hf
      exact Nat.zero_le _
    ·rintro F ⟨F1, F2⟩
     refine Ok.app (by simp only [List.length_cons, List.length_nil]; omega) (by decide) (Ok.mk ?_)
     have w : IntKind.wrap .i64 (i - 1) = i - 1 := wi64 (by omega) (by omega)
     refine ⟨⟨o3, by simp only; omega, by simp only [w]; omega, by simp only [w]; omega, by simp only [w, List.length_append, List.length_cons, List.length_nil]; omega, fun c hc' => ?_⟩, by simp only [w]; omega⟩
     rcases List.mem_append.1 hc' with hc' | hc'
     ·exact g6 c hc'
     ·simp only [List.mem_cons, List.not_mem_nil, or_false] at hc'
      subst hc'
      refine ⟨by simp only; omega, fun k hk => ?_⟩
      obtain ⟨f, hf, rfl⟩ := List.mem_map.1 hk
      exact F2 f hf
 ·obtain ⟨b1, b2, b3, b4, b5⟩ := hb
  exact Ok.mk ⟨b.2.2, b.1, by rw [b3], b4, by omega, b1, b2⟩
end Go.Proofs.YtgggihpbhmbjaaaDoor
