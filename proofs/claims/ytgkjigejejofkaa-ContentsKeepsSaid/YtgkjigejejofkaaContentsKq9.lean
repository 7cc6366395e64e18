/- The plain law of ContentsKeeps. No condition. -/
import Derived.Test.YtgkjigejejofkaaContentsBq9
namespace Go.Proofs.Ytgkjigejejofkaa
open Go Go.Dc

theorem sameTexts_self {N : Nat} {a : List ByteArray} (hl : a.length < 9223372036854775807) (hN : a.length < N) : testgatemake_SameTexts N a a = some true := by
  have := loopM_steps (f := testgatemake_SameTexts_L1 N a a) (fun i => (i : Int)) a.length (.inl ()) (fun i hi => by
    have hc : ((i : Int) < (a.length : Int)) := by omega
    simp only [testgatemake_SameTexts_L1, hc, decide_true, if_true, idx_nat hi, Option.bind_some, bytes_eq, Bool.not_true, Bool.false_eq_true, if_false]
    rw [wi64 (by omega) (by omega)]; rfl) (by simp [testgatemake_SameTexts_L1]) (N := N) hN
  simp only [testgatemake_SameTexts, bne_self_eq_false, Bool.false_eq_true, if_false]
  rw [show (0 : Int) = ((0 : Nat) : Int) from rfl, this]; rfl

theorem hasInt_not {N : Nat} {l : List Int} {x : Int} (hx : x ∉ l) (hl : l.length < 9223372036854775807) (hN : l.length < N) : testgatemake_HasInt N l x = some false := by
  have := loopM_steps (f := testgatemake_HasInt_L1 N l x) (fun i => (i : Int)) l.length (.inl ()) (fun i hi => by
    have hc : ((i : Int) < (l.length : Int)) := by omega
    have hne : (l[i] == x) = false := by rw [beq_eq_false_iff_ne]; intro e; exact hx (by rw [← e]; simp)
    simp only [testgatemake_HasInt_L1, hc, decide_true, if_true, idx_nat hi, Option.bind_some, hne, Bool.false_eq_true, if_false]
    rw [wi64 (by omega) (by omega)]; rfl) (by simp [testgatemake_HasInt_L1]) (N := N) hN
  simp only [testgatemake_HasInt]
  rw [show (0 : Int) = ((0 : Nat) : Int) from rfl, this]; rfl

theorem keep_props {N : Nat} {a : List ByteArray} {u : List Int} (hN : 4097 < N) (hu : u.length < 1000000) (hN2 : u.length < N) (ha : chk a = 0) (hr : ∀ x ∈ u, 0 ≤ x ∧ x < a.length) :
    ∃ ts ns, contents_Keep N a u = some (ts, ns, 0) ∧ ts.length ≤ a.length ∧ ns.length = a.length ∧ ∀ (j : Nat) (x : Int) (t : ByteArray), ns[j]? = some x → a[j]? = some t → (x < 0 ∧ (j : Int) ∉ u) ∨ ∃ q : Nat, x = q ∧ ts[q]? = some t := by
  obtain ⟨la, na⟩ := chk_zero ha
  unfold contents_Keep
  rw [check_eq (by omega)]
  simp only [Option.bind_some]
  have hm : makeA 1 false (a.length : Int) = some (List.replicate a.length false) := by
    have hmx : (maxLen : Int) = 9223372036854775807 := rfl
    simp only [makeA]; rw [if_pos (by omega)]; simp
  simp only [ha, bne_self_eq_false, Bool.false_eq_true, if_false, hm, Option.bind_some]
  obtain ⟨b1, h1, m, rfl, hml, hmask⟩ := loopM_ex (f := contents_Keep_L1 N a u) (fun s => ∃ i : Nat, s.1 = i ∧ i ≤ u.length ∧ s.2.length = a.length ∧ ∀ (j : Nat) (v : Bool), s.2[j]? = some v → v = decide ((j : Int) ∈ u.take i)) (fun s => (u.length - s.1).toNat)
    (fun b => ∃ m, b = .inl m ∧ m.length = a.length ∧ ∀ (j : Nat) (v : Bool), m[j]? = some v → v = decide ((j : Int) ∈ u)) (by
    rintro ⟨i', m⟩ ⟨i, rfl, h1, h2, h3⟩
    simp only at h1 h2 h3
    by_cases hi : i < u.length
    · right
      have hc : ((i : Int) < (u.length : Int)) := by omega
      obtain ⟨g0, g1⟩ := hr u[i] (by simp)
      have hx : ¬ u[i] < 0 := by omega
      have hy : ¬ u[i] ≥ (a.length : Int) := by omega
      refine ⟨(((i + 1 : Nat) : Int), m.set (u[i]).toNat true), ?_, ⟨i + 1, rfl, by omega, by simpa using h2, ?_⟩, by simp only; omega⟩
      · simp only [contents_Keep_L1, hc, decide_true, if_true, idx_nat hi, Option.bind_some, hx, decide_false, Bool.false_eq_true, if_false, Int.toNat_natCast, hy, idx_some g0 (show (u[i]).toNat < m.length by omega)]
        rw [wi64 (by omega) (by omega)]; rfl
      · intro j v hv
        rw [List.take_succ_eq_append_getElem hi]
        simp only at hv
        rw [List.getElem?_set] at hv
        split at hv
        · rename_i e
          split at hv
          · simp at hv; subst hv
            have : (j : Int) = u[i] := by omega
            rw [this]
            exact (decide_eq_true (List.mem_append.2 (.inr (List.mem_singleton.2 rfl)))).symm
          · cases hv
        · rename_i e
          have := h3 j v hv
          rw [this]
          have hne : ¬ (j : Int) = u[i] := by omega
          simp only [List.mem_append, List.mem_singleton, hne, or_false]
    · left
      have he : i = u.length := by omega
      subst he
      refine ⟨.inl m, by simp [contents_Keep_L1], m, rfl, h2, fun j v hv => ?_⟩
      have := h3 j v hv
      simpa using this) N (0, List.replicate a.length false) ⟨0, rfl, by omega, by simp, fun j v hv => by rw [List.getElem?_replicate] at hv; split at hv <;> simp_all⟩ (by simp; omega)
  rw [h1]
  simp only [Option.bind_some]
  obtain ⟨⟨ns, ts⟩, h3, h4, h5, h6⟩ := loopM_ex (f := contents_Keep_L2 N a m) (fun s => ∃ i : Nat, s.2.1 = i ∧ i ≤ a.length ∧ s.1.length = i ∧ s.2.2.length ≤ i ∧ ∀ (j : Nat) (x : Int) (t : ByteArray), s.1[j]? = some x → a[j]? = some t → (x < 0 ∧ (j : Int) ∉ u) ∨ ∃ q : Nat, x = q ∧ s.2.2[q]? = some t) (fun s => (a.length - s.2.1).toNat)
    (fun b => b.2.length ≤ a.length ∧ b.1.length = a.length ∧ ∀ (j : Nat) (x : Int) (t : ByteArray), b.1[j]? = some x → a[j]? = some t → (x < 0 ∧ (j : Int) ∉ u) ∨ ∃ q : Nat, x = q ∧ b.2[q]? = some t) (by
    rintro ⟨ns, i', ts⟩ ⟨i, rfl, h1, h2, h2', h3⟩
    simp only at h1 h2 h2' h3
    by_cases hi : i < a.length
    · right
      have hc : ((i : Int) < (a.length : Int)) := by omega
      have him : i < m.length := by omega
      simp only [contents_Keep_L2, hc, decide_true, if_true, idx_nat hi, idx_nat him, Option.bind_some]
      have hmi := hmask i m[i] (by simp [him])
      cases hb : m[i] with
      | false =>
        refine ⟨(ns ++ [-1], ((i + 1 : Nat) : Int), ts), ?_, ⟨i + 1, rfl, by omega, by simp; omega, by simp only; omega, ?_⟩, by simp only; omega⟩
        · simp only [Bool.not_false, if_true]
          rw [appendS_some (by simp; omega) (by omega), wi64 (by omega) (by omega)]
          rfl
        · intro j x t hj ht
          simp only at hj
          rw [List.getElem?_append] at hj
          split at hj
          · exact h3 j x t hj ht
          · rename_i hge
            have : j = i := by
              have := (List.getElem?_eq_some_iff.1 hj).1
              simp at this; omega
            subst this
            simp [h2] at hj
            subst hj
            left
            rw [hb] at hmi
            exact ⟨by omega, by simpa using hmi.symm⟩
      | true =>
        refine ⟨(ns ++ [(ts.length : Int)], ((i + 1 : Nat) : Int), ts ++ [a[i]]), ?_, ⟨i + 1, rfl, by omega, by simp; omega, by simp; omega, ?_⟩, by simp only; omega⟩
        · simp only [Bool.not_true, Bool.false_eq_true, if_false]
          rw [appendS_some (by simp; omega) (by omega), wi64 (by omega) (by omega)]
          simp only [Option.bind_some]
          rw [appendS_some (by simp; omega) (by omega)]
          rfl
        · intro j x t hj ht
          simp only at hj
          rw [List.getElem?_append] at hj
          split at hj
          · rcases h3 j x t hj ht with h | ⟨q, hq, hq2⟩
            · exact .inl h
            · exact .inr ⟨q, hq, by simp only; rw [List.getElem?_append_left (List.getElem?_eq_some_iff.1 hq2).1]; exact hq2⟩
          · have : j = i := by
              have := (List.getElem?_eq_some_iff.1 hj).1
              simp at this; omega
            subst this
            simp [h2] at hj
            subst hj
            right
            refine ⟨ts.length, rfl, ?_⟩
            simp only [List.getElem?_append_right (Nat.le_refl _), Nat.sub_self]
            rw [← ht]; simp [hi]
    · left
      have he : i = a.length := by omega
      subst he
      exact ⟨(ns, ts), by simp [contents_Keep_L2], h2', h2, h3⟩) N ([], 0, []) ⟨0, rfl, by omega, by simp, by simp, by simp⟩ (by simp; omega)
  exact ⟨ts, ns, by rw [h3]; rfl, h4, h5, h6⟩

theorem getR_at {l : List ByteArray} {n : Nat} (hl : chk l = 0) (h : n < l.length) : getR l (n : Int) = (l[n], 0) := by
  unfold getR
  rw [if_neg (by simp [hl])]
  simp [h]

theorem chk_small {l : List ByteArray} (h : l.length ≤ 4096) (hn : l.Nodup) : chk l = 0 := by unfold chk; rw [if_neg (by omega), if_pos hn]

theorem encL_valid {l : List ByteArray} (hs : ∀ t ∈ l, t.size ≤ 100) : ∀ x ∈ encL l, 1 ≤ x.1 ∧ x.1 ≤ 255 ∧ x.2.length ≤ 2097152 := by
  intro x hx
  simp only [encL, List.mem_map] at hx
  obtain ⟨t, ht, rfl⟩ := hx
  have := hs t ht
  have := size_list t
  exact ⟨by omega, by omega, by simp only; omega⟩

theorem decF_enc : ∀ (l acc : List ByteArray), decF (encL l) acc = some (acc ++ l)
  | [], acc => by simp [decF, encL]
  | t :: l, acc => by
    have ih := decF_enc l (acc ++ [t])
    simp only [encL] at ih
    simp only [encL, List.map_cons, decF, if_true, strOf_data]
    rw [ih]; simp

theorem decode_enc {l : List ByteArray} (hl : chk l = 0) (hs : ∀ t ∈ l, t.size ≤ 100) (h8 : l.length ≤ 100) : decodeR (fmL (encL l)) = (l, 0) := by
  have hlen := fmL_len l hs
  unfold decodeR
  rw [framesR_all (encL_valid hs) (by omega)]
  simp [decF_enc, hl]

theorem mergeT_size {a b : List ByteArray} {n : Nat} (ha : ∀ t ∈ a, t.size ≤ n) (hb : ∀ t ∈ b, t.size ≤ n) : ∀ t ∈ mergeT a b, t.size ≤ n := by
  induction b generalizing a with
  | nil => exact ha
  | cons x b ih =>
    refine ih (a := addT a x) ?_ (fun t ht => hb t (List.mem_cons_of_mem _ ht))
    intro t ht
    unfold addT at ht
    split at ht
    · exact ha t ht
    · rcases List.mem_append.1 ht with ht | ht
      · exact ha t ht
      · simp at ht; subst ht; exact hb _ (List.mem_cons_self ..)

theorem take_prefix_eq {a m : List ByteArray} (h : a <+: m) : m.take a.length = a := by
  obtain ⟨r, rfl⟩ := h; simp

theorem keeps_L1 {N : Nat} {a b : List ByteArray} {y2 : (List Int × Int) × List ByteArray} (hy : y2.2 = b) (hc : chk (mergeT a b) = 0) (hb : b.length ≤ 1000) (hN : 5000 < N) :
    loopM (testgatelaw13_ContentsKeeps_L1 N y2 (mergeT a b, numsT a b, 0)) N 0 = some (.inl ()) := by
  have hnl : (numsT a b).length = b.length := by simp [numsT]
  have := loopM_steps (f := testgatelaw13_ContentsKeeps_L1 N y2 (mergeT a b, numsT a b, 0)) (fun i => (i : Int)) b.length (.inl ()) (fun i hi => by
    have hc' : ((i : Int) < ((numsT a b).length : Int)) := by omega
    have hmem : b[i] ∈ mergeT a b := mergeT_mem (by simp)
    have hlt := fi_lt.2 hmem
    have hni : (numsT a b)[i]'(by omega) = (fi (mergeT a b) b[i] : Int) := by simp [numsT]
    simp only [testgatelaw13_ContentsKeeps_L1, hc', decide_true, if_true, idx_nat (show i < (numsT a b).length by omega), hni, Option.bind_some]
    rw [get_eq (by omega), getR_at hc hlt, fi_get hlt]
    simp only [Option.bind_some, bne_self_eq_false, Bool.false_eq_true, if_false, hy, idx_nat hi, bytes_eq, decide_true, Bool.not_true]
    rw [wi64 (by omega) (by omega)]; rfl) (by simp [testgatelaw13_ContentsKeeps_L1, hnl]) (N := N) (by omega)
  exact this

theorem keeps_L2 {N : Nat} {m ts : List ByteArray} {u ns : List Int} (hu : u.length ≤ 1000) (hm : m.length ≤ 4096) (hts : ts.length ≤ m.length) (hn : ns.length = m.length) (hN : 5000 < N)
    (h : ∀ (j : Nat) (x : Int) (t : ByteArray), ns[j]? = some x → m[j]? = some t → (x < 0 ∧ (j : Int) ∉ u) ∨ ∃ q : Nat, x = q ∧ ts[q]? = some t) :
    loopM (testgatelaw13_ContentsKeeps_L2 N (m, u, 0) (ts, ns, 0)) N 0 = some (.inl ()) := by
  have := loopM_steps (f := testgatelaw13_ContentsKeeps_L2 N (m, u, 0) (ts, ns, 0)) (fun i => (i : Int)) ns.length (.inl ()) (fun i hi => by
    have hc : ((i : Int) < (ns.length : Int)) := by omega
    have him : i < m.length := by omega
    simp only [testgatelaw13_ContentsKeeps_L2, hc, decide_true, if_true, idx_nat hi, Option.bind_some]
    rcases h i ns[i] m[i] (by simp [hi]) (by simp [him]) with ⟨hx, hnot⟩ | ⟨q, hq, hq2⟩
    · have hx' : ¬ ns[i] ≥ 0 := by omega
      simp only [hx', decide_false, Bool.false_eq_true, if_false, hx, decide_true, if_true]
      rw [hasInt_not hnot (by omega) (by omega)]
      simp only [Option.bind_some, Bool.false_eq_true, if_false]
      rw [wi64 (by omega) (by omega)]; rfl
    · have hql := (List.getElem?_eq_some_iff.1 hq2).1
      have hqe := (List.getElem?_eq_some_iff.1 hq2).2
      have h1 : ((q : Int) ≥ 0) := by omega
      have h2 : ¬ ((q : Int) ≥ (ts.length : Int)) := by omega
      have h3 : ¬ ((q : Int) < 0) := by omega
      simp only [hq, h1, decide_true, if_true, h2, decide_false, Bool.false_eq_true, if_false, idx_nat hql, idx_nat him, Option.bind_some, bytes_eq, hqe, Bool.not_true, h3]
      rw [wi64 (by omega) (by omega)]; rfl) (by simp [testgatelaw13_ContentsKeeps_L2]) (N := N) (by omega)
  exact this

theorem testgatelaw13_ContentsKeeps_true (l : List Int) (_gl : l.length * 8 ≤ reachBytes ∧ ∀ x ∈ l, (Lit.int .i64 x).wf = true) (s : ByteArray) (_gs : s.size ≤ reachBytes) :
    ∃ N, testgatelaw13_ContentsKeeps N l s = some true := by
  refine ⟨3000000, ?_⟩
  generalize hNe : 3000000 = N
  obtain ⟨a1, a, h1, g1, g2, la, sa⟩ := store_ok (N := N) (l := l) (a := 0) (by omega) (by omega) (by omega)
  obtain ⟨a2, b, h2, _, _, lb, sb⟩ := store_ok (N := N) (l := l) (a := a1) (by omega) (by omega) (by omega)
  simp only [testgatelaw13_ContentsKeeps, h1, h2, Option.bind_some]
  rw [refcheck_eq (by omega), refcheck_eq (by omega), contents_awake (by omega)]
  simp only [Option.bind_some]
  by_cases ha : chk a = 0
  · by_cases hb : chk b = 0
    · obtain ⟨_, na⟩ := chk_zero ha
      have hal := addT_len a s
      have hput : putR a s = (addT a s, (fi (addT a s) s : Int), 0) := by unfold putR; rw [if_neg (by simp [ha]), if_neg (by omega)]
      have hcp : chk (addT a s) = 0 := chk_small (by omega) (addT_nodup na)
      have hlt := fi_lt.2 (addT_mem a s)
      have hpre := addT_prefix a s
      have hple := hpre.length_le
      simp only [ha, hb, bne_self_eq_false, Bool.false_eq_true, if_false, Option.bind_some]
      rw [put_eq (by omega), hput]
      simp only [Option.bind_some]
      rw [get_eq (by omega), getR_at hcp hlt, fi_get hlt]
      have hd : decide (((addT a s).length : Int) < (a.length : Int)) = false := by simp; omega
      simp only [Option.bind_some, bne_self_eq_false, Bool.false_eq_true, if_false, bytes_eq, decide_true, Bool.not_true, hd]
      rw [subS_some (by omega) (by omega) (by omega)]
      simp only [Option.bind_some, Int.toNat_natCast, Int.toNat_zero, List.drop_zero, take_prefix_eq hpre]
      rw [sameTexts_self (by omega) (by omega)]
      simp only [Option.bind_some, Bool.not_true, Bool.false_eq_true, if_false]
      have hml := mergeT_len a b
      have hcm : chk (mergeT a b) = 0 := chk_small (by omega) (mergeT_nodup na)
      have hmr : mergeR a b = (mergeT a b, numsT a b, 0) := by unfold mergeR; rw [if_neg (by simp [ha]), if_neg (by simp [hb]), if_neg (by omega)]
      have hnl : (numsT a b).length = b.length := by simp [numsT]
      have hpm := mergeT_prefix a b
      have hpml := hpm.length_le
      rw [merge_eq (by omega), hmr]
      simp only [Option.bind_some, bne_self_eq_false, Bool.false_eq_true, if_false, hnl]
      rw [subS_some (by omega) (by omega) (by omega)]
      simp only [Option.bind_some, Int.toNat_natCast, Int.toNat_zero, List.drop_zero, take_prefix_eq hpm]
      rw [sameTexts_self (by omega) (by omega)]
      simp only [Option.bind_some, Bool.not_true, Bool.false_eq_true, if_false]
      rw [keeps_L1 (b := b) rfl hcm (by omega) (by omega)]
      simp only [Option.bind_some]
      obtain ⟨ts, ns, hk, hk1, hk2, hk3⟩ := keep_props (N := N) (a := mergeT a b) (u := numsT a b) (by omega) (by omega) (by omega) hcm (by
        intro x hx
        simp only [numsT, List.mem_map] at hx
        obtain ⟨t, ht, rfl⟩ := hx
        have := fi_lt.2 (mergeT_mem (a := a) ht)
        omega)
      rw [hk]
      simp only [Option.bind_some, bne_self_eq_false, Bool.false_eq_true, if_false, hk2]
      rw [keeps_L2 (by omega) (by omega) hk1 hk2 (by omega) hk3]
      simp only [Option.bind_some]
      have hms : ∀ t ∈ mergeT a b, t.size ≤ 100 := fun t ht => by have := mergeT_size sa sb t ht; omega
      rw [encode_eq hcm hms (by omega)]
      have hfl := fmL_len _ hms
      simp only [Option.bind_some]
      rw [decode_eq (by omega) (by omega), decode_enc hcm hms (by omega)]
      simp only [Option.bind_some, beq_self_eq_true, if_true]
      rw [same13_self (by omega) (by omega)]
      rfl
    · have hb' : (chk b != 0) = true := by simp [hb]
      simp [ha, hb']
  · have ha' : (chk a != 0) = true := by simp [ha]
    simp [ha']
end Go.Proofs.Ytgkjigejejofkaa
