/- The plain law of WireBack: numbers and strings that were written are read back. No condition. -/
import Derived.Test.YtgkjigejejofkaaWireNum
namespace Go.Proofs.Ytgkjigejejofkaa
open Go Go.Dc

/-! ### the tape -/
theorem fold_ok {N : Nat} {v n : Int} (hn : n ≤ 9223372036854775807) : ∃ r, testgatemake_Fold N v n = some r ∧ 0 ≤ r ∧ (1 ≤ n → r < n) := by
  simp only [testgatemake_Fold]
  by_cases h : n ≤ 1
  · exact ⟨0, by simp [h], by omega, by omega⟩
  · have hne : n ≠ 0 := by omega
    have h1 := Int.tmod_lt_of_pos v (show 0 < n by omega)
    have h2 := Int.lt_tmod_of_pos v (show 0 < n by omega)
    simp only [h, decide_false, Bool.false_eq_true, if_false, remS, hne, Option.bind_some]
    by_cases h3 : Int.tmod v n < 0
    · refine ⟨Int.tmod v n + n, ?_, by omega, by omega⟩
      simp only [h3, decide_true, if_true, Option.bind_some]
      rw [wi64 (by omega) (by omega)]
    · exact ⟨Int.tmod v n, by simp only [h3, decide_false, Bool.false_eq_true, if_false, Option.bind_some], by omega, by omega⟩

theorem next_ok {N : Nat} {l : List Int} {a n : Int} (h0 : 0 ≤ a) (h1 : a < 4611686018427387904) (hn : n ≤ 9223372036854775807) : ∃ r, testgatemake_Tape_Next N (l, a) n = some ((l, a + 1), r) ∧ 0 ≤ r ∧ (1 ≤ n → r < n) := by
  simp only [testgatemake_Tape_Next]
  have hv : ∃ v, (if (decide (a < (List.length l : Int))) = true then ((idx l a).bind fun x1 => some x1) else (some (Int.tmod (IntKind.wrap .i64 (a * 7)) 11)) : Option Int) = some v := by
    by_cases h : a < (l.length : Int)
    · exact ⟨_, by simp only [h, decide_true, if_true]; rw [idx_some h0 (by omega)]; rfl⟩
    · exact ⟨_, by simp only [h, decide_false, Bool.false_eq_true, if_false]; rfl⟩
  obtain ⟨v, hv⟩ := hv
  obtain ⟨r, hr, h2, h3⟩ := fold_ok (N := N) (v := v) hn
  exact ⟨r, by simp only [hv, Option.bind_some, hr]; rw [wi64 (by omega) (by omega)], h2, h3⟩

theorem text_ok {N : Nat} {l : List Int} {a n : Int} {abc : ByteArray} (h0 : 0 ≤ a) (h1 : a + n < 4611686018427387904) (hn0 : 0 ≤ n) (hn : n ≤ 1000000) (hs : 0 < abc.size) (hs2 : abc.size < 1000000) (hN : n < N) :
    ∃ s, testgatemake_Tape_Text N (l, a) n abc = some ((l, a + n), s) ∧ s.size = n.toNat := by
  have := loopM_ex (f := testgatemake_Tape_Text_L1 N n abc) (fun s => s.2.2.1 = l ∧ s.2.2.2 = a + s.2.1 ∧ 0 ≤ s.2.1 ∧ s.2.1 ≤ n ∧ s.1.length = s.2.1.toNat) (fun s => (n - s.2.1).toNat)
    (fun b => b.2.1 = l ∧ b.2.2 = a + n ∧ b.1.length = n.toNat) (by
      rintro ⟨out, i, l', a'⟩ ⟨h2, h3, h4, h5, h6⟩
      simp only at h2 h3 h4 h5 h6
      subst h2 h3
      by_cases hi : i < n
      · right
        obtain ⟨r, hr, hr0, hr1⟩ := next_ok (N := N) (l := l') (a := a + i) (n := (abc.size : Int)) (by omega) (by omega) (by omega)
        obtain ⟨q, rfl⟩ : ∃ q : Nat, r = q := ⟨r.toNat, by omega⟩
        have hq : q < abc.size := by have := hr1 (by omega); omega
        refine ⟨(out ++ [abc[q]], i + 1, l', a + i + 1), ?_, ⟨rfl, by simp only; omega, by simp only; omega, by simp only; omega, by simp; omega⟩, by simp only; omega⟩
        simp only [testgatemake_Tape_Text_L1, hi, decide_true, if_true, hr, Option.bind_some, idxB_nat hq]
        rw [appendS_some (by simp; omega) (by omega), wi64 (by omega) (by omega)]
        rfl
      · left
        refine ⟨(out, l', a + i), ?_, rfl, by simp only; omega, by simp only; omega⟩
        simp only [testgatemake_Tape_Text_L1, hi, decide_false, Bool.false_eq_true, if_false]) N ([], 0, l, a) ⟨rfl, by simp, by simp, by simpa using hn0, by simp⟩ (by simp; omega)
  obtain ⟨⟨o, l', a'⟩, h2, h3, h4, h5⟩ := this
  simp only at h3 h4 h5
  subst h3 h4
  exact ⟨strOf o, by simp only [testgatemake_Tape_Text, h2, Option.bind_some], by simpa [strOf, ByteArray.size] using h5⟩

/-! ### reading what was written -/
def dvl : List UInt8 → Nat
  | [] => 0
  | b :: r => b.toNat % 128 + 128 * dvl r
theorem dvl_snoc (xs : List UInt8) (x : UInt8) : dvl (xs ++ [x]) = dvl xs + 128 ^ xs.length * (x.toNat % 128) := by
  induction xs with
  | nil => simp [dvl]
  | cons y r ih =>
    simp only [List.cons_append, dvl, ih, List.length_cons, Nat.pow_succ]
    rw [Nat.mul_add, ← Nat.mul_assoc, Nat.mul_comm 128 (128 ^ r.length)]; omega

theorem uval_eq (l : List UInt8) (a : Nat) : ∀ k n, a + k ≤ l.length → n < 18446744073709551616 → uval l a k n = (n * 128 ^ k + dvl ((l.drop a).take k)) % 18446744073709551616
  | 0, n, _, h => by simp [uval, dvl, Nat.mod_eq_of_lt h]
  | k + 1, n, h, hn => by
    have hlt : a + k < l.length := by omega
    have e : (l.drop a).take (k + 1) = (l.drop a).take k ++ [l[a + k]] := by
      rw [List.take_add_one]
      simp [hlt]
    have hlen : ((l.drop a).take k).length = k := by simp; omega
    rw [uval, uval_eq l a k _ (by omega) (Nat.mod_lt _ (by omega)), e, dvl_snoc, hlen]
    have hg : l.getD (a + k) 0 = l[a + k] := by simp [List.getD, hlt]
    rw [hg]
    generalize dvl ((l.drop a).take k) = D
    generalize l[a + k].toNat % 128 = d
    have e2 : n * 128 ^ (k + 1) + (D + 128 ^ k * d) = (n * 128 + d) * 128 ^ k + D := by
      rw [Nat.pow_succ, Nat.add_mul, Nat.mul_comm (128 ^ k) 128, Nat.mul_assoc, Nat.mul_comm d]; omega
    rw [e2, Nat.add_mod, Nat.mul_mod, Nat.mod_mod, ← Nat.mul_mod, ← Nat.add_mod]

theorem encF_spec : ∀ k n, n < 128 ^ (k + 1) → ∃ ini : List UInt8, ∃ b : UInt8, encF k n = ini ++ [b] ∧ b.toNat = n / 128 ^ ini.length ∧ b.toNat < 128 ∧ (ini ≠ [] → 1 ≤ b.toNat) ∧ (∀ x ∈ ini, 128 ≤ x.toNat) ∧ ini.length ≤ k ∧ dvl (encF k n) = n
  | 0, n, h => by
    refine ⟨[], UInt8.ofNat n, rfl, ?_, ?_, by simp, by simp, by simp, ?_⟩
    · simp [UInt8.toNat_ofNat']; omega
    · simp [UInt8.toNat_ofNat']; omega
    · simp [encF, dvl, UInt8.toNat_ofNat']; omega
  | k + 1, n, h => by
    by_cases hn : n < 128
    · refine ⟨[], UInt8.ofNat n, by simp [encF, hn], ?_, ?_, by simp, by simp, by simp, ?_⟩
      · simp [UInt8.toNat_ofNat']; omega
      · simp [UInt8.toNat_ofNat']; omega
      · simp [encF, hn, dvl, UInt8.toNat_ofNat']
        try omega
    · obtain ⟨ini, b, h1, h2, h3, h4, h5, h6, h7⟩ := encF_spec k (n / 128) (by rw [Nat.pow_succ] at h; omega)
      refine ⟨UInt8.ofNat (n % 128 + 128) :: ini, b, by simp [encF, hn, h1], ?_, h3, fun _ => ?_, ?_, by simpa using h6, ?_⟩
      · rw [h2, List.length_cons, Nat.pow_succ, Nat.mul_comm, Nat.div_div_eq_div_mul]
      · cases ini with
        | nil => simp at h2; omega
        | cons y r => exact h4 (by simp)
      · intro x hx
        rcases List.mem_cons.1 hx with rfl | hx
        · simp [UInt8.toNat_ofNat']; omega
        · exact h5 x hx
      · simp only [encF, hn, if_false, dvl, h7]
        simp [UInt8.toNat_ofNat']; omega

theorem takeWhile_all {p : UInt8 → Bool} {ini post : List UInt8} {b : UInt8} (h : ∀ x ∈ ini, p x = true) (hb : p b = false) : (ini ++ b :: post).takeWhile p = ini := by
  induction ini with
  | nil => simp [hb]
  | cons y r ih =>
    rw [List.cons_append, List.takeWhile_cons, h y (List.mem_cons_self ..)]
    simp [ih (fun x hx => h x (List.mem_cons_of_mem _ hx))]

theorem uintP_enc {pre post : List UInt8} {n : Nat} (hn : n < 18446744073709551616) : uintP (pre ++ (encU n ++ post)) (pre.length : Int) = ((n : Int), ((pre.length + (encU n).length : Nat) : Int), 0) := by
  obtain ⟨ini, b, h1, h2, h3, h4, h5, h6, h7⟩ := encF_spec 9 n (by omega)
  have he : encU n = ini ++ [b] := h1
  generalize hl : pre ++ (encU n ++ post) = l
  have hll : l.length = pre.length + (ini.length + 1) + post.length := by rw [← hl, he]; simp; omega
  have hd : l.drop pre.length = ini ++ b :: post := by rw [← hl, he]; simp
  have hend : uend l pre.length = pre.length + ini.length := by
    unfold uend
    rw [hd, takeWhile_all (fun x hx => by simp [h5 x hx]) (by simp; omega)]
  have hb : l.getD (pre.length + ini.length) 0 = b := by
    rw [← hl, he]; simp [List.getD]
  have hv : uval l pre.length (ini.length + 1) 0 = n := by
    rw [uval_eq _ _ _ _ (by omega) (by omega), hd]
    have : (ini ++ b :: post).take (ini.length + 1) = encF 9 n := by rw [h1]; simp [List.take_append, List.take_of_length_le]
    rw [this, h7]; simp; omega
  have hlast : ini.length = 9 → b.toNat ≤ 1 := by intro h9; rw [h2, h9]; omega
  simp only [uintP]
  rw [if_neg (by omega)]
  simp only [Int.toNat_natCast, hend, hb]
  have e : pre.length + ini.length - pre.length = ini.length := by omega
  rw [if_neg (by omega), e, if_neg (by
    rintro (h | h | h)
    · omega
    · have := hlast h.1; omega
    · have : ini ≠ [] := by rintro rfl; simp at h
      have := h4 this; omega), hv, he]
  simp; omega

theorem unzig_zig {x : Int} : unzig (zig x) = x := by
  unfold zig unzig
  split
  · rename_i h
    rw [if_pos (by omega)]; omega
  · rename_i h
    rw [if_neg (by omega)]; omega

theorem intP_enc {pre post : List UInt8} {x : Int} (h1 : -9223372036854775808 ≤ x) (h2 : x ≤ 9223372036854775807) : intP (pre ++ (encU (zig x) ++ post)) (pre.length : Int) = (x, ((pre.length + (encU (zig x)).length : Nat) : Int), 0) := by
  simp [intP, uintP_enc (zig_lt h1 h2), unzig_zig]

theorem strOf_data (s : ByteArray) : strOf s.data.toList = s := by
  cases s; simp [strOf]

theorem textP_enc {pre post : List UInt8} {s : ByteArray} {most : Int} (hs : s.size < 18446744073709551616) (hm : (s.size : Int) ≤ most) : textP (pre ++ (encU s.size ++ (s.data.toList ++ post))) (pre.length : Int) most = (s, ((pre.length + (encU s.size).length + s.size : Nat) : Int), 0) := by
  simp only [textP, uintP_enc hs, if_true]
  rw [if_neg (by omega), if_neg (by simp only [List.length_append, Array.length_toList, ByteArray.size_data]; omega)]
  have e : ((pre ++ (encU s.size ++ (s.data.toList ++ post))).take (((pre.length + (encU s.size).length : Nat) : Int) + (s.size : Int)).toNat).drop ((pre.length + (encU s.size).length : Nat) : Int).toNat = s.data.toList := by
    have e1 : (((pre.length + (encU s.size).length : Nat) : Int) + (s.size : Int)).toNat = (pre ++ encU s.size ++ s.data.toList).length := by simp; omega
    have e2 : (((pre.length + (encU s.size).length : Nat) : Int)).toNat = (pre ++ encU s.size).length := by simp only [List.length_append]; omega
    rw [e1, e2, show pre ++ (encU s.size ++ (s.data.toList ++ post)) = pre ++ encU s.size ++ s.data.toList ++ post by simp, List.take_left, List.drop_left]
  rw [e, strOf_data]
  simp

/-- The bytes of one number with its string. -/
def itemB (p : Int × ByteArray) : List UInt8 := encU p.1.toNat ++ (encU (zig (IntKind.wrap .i64 p.1)) ++ (encU p.2.size ++ p.2.data.toList))
theorem itemB_len {p : Int × ByteArray} (h : p.2.size ≤ 20) : (itemB p).length ≤ 50 := by
  have h1 := encU_len p.1.toNat
  have h2 := encU_len (zig (IntKind.wrap .i64 p.1))
  have h3 := encU_len p.2.size
  simp only [itemB, List.length_append, Array.length_toList, ByteArray.size_data]; omega

theorem back_loop1 {N : Nat} (n : Int) (hn0 : 0 ≤ n) (hn : n ≤ 18446744073709551615) (hN : 1000 < N) : ∀ (k : Nat) (its : List (Int × ByteArray)) (l : List Int) (a : Int) (M : Nat), k + its.length ≤ 8 → k < M → 0 ≤ a → a ≤ 1000000 - 100 * (k : Int) →
    (∀ p ∈ its, 0 ≤ p.1 ∧ p.1 ≤ 18446744073709551615 ∧ p.2.size ≤ 20) →
    ∃ (its' : List (Int × ByteArray)) (l' : List Int) (a' : Int), loopM (testgatelaw03_WireBack_L1 N n) M (its.flatMap itemB, its.map (·.1), its.map (·.2), (k : Int), l, a) = some (its'.flatMap itemB, its'.map (·.1), its'.map (·.2), l', a') ∧ its'.length ≤ 8 ∧ (∀ p ∈ its', 0 ≤ p.1 ∧ p.1 ≤ 18446744073709551615 ∧ p.2.size ≤ 20) := by
  intro k
  induction k with
  | zero =>
    intro its l a M hk hM _ _ hi
    obtain ⟨M, rfl⟩ : ∃ M', M = M' + 1 := ⟨M - 1, by omega⟩
    exact ⟨its, l, a, by simp [loopM, testgatelaw03_WireBack_L1], by omega, hi⟩
  | succ k ih =>
    intro its l a M hk hM ha0 ha1 hi
    obtain ⟨M, rfl⟩ : ∃ M', M = M' + 1 := ⟨M - 1, by omega⟩
    obtain ⟨r2, hr2, hr20, hr21⟩ := next_ok (N := N) (l := l) (a := a) (n := 64) ha0 (by omega) (by omega)
    obtain ⟨r3, hr3, hr30, hr31⟩ := next_ok (N := N) (l := l) (a := a + 1) (n := 20) (by omega) (by omega) (by omega)
    have h31 := hr31 (by omega)
    have h21 := hr21 (by omega)
    obtain ⟨s, hs, hsz⟩ := text_ok (N := N) (l := l) (a := a + 1 + 1) (n := r3) (abc := ⟨#[97, 98, 247, 0]⟩) (by omega) (by omega) (by omega) (by omega) (by decide) (by decide) (by omega)
    obtain ⟨u, hu, hu0, hu1⟩ : ∃ u, shrS .u64 n (IntKind.wrap .u64 r2) = some u ∧ 0 ≤ u ∧ u ≤ 18446744073709551615 := by
      refine ⟨n / (2 ^ (min r2.toNat 64) : Nat), ?_, Int.ediv_nonneg hn0 (Int.natCast_nonneg _), ?_⟩
      · rw [wu64 (x := r2) (by omega) (by omega)]
        simp only [shrS, IntKind.bits]
        rw [if_neg (by omega), Int.fdiv_eq_ediv_of_nonneg _ (Int.le_of_lt (Int.pow_pos (by omega)))]
        simp
      · exact Int.le_trans (Int.ediv_le_self _ hn0) hn
    obtain ⟨v, rfl⟩ : ∃ v : Nat, u = v := ⟨u.toNat, by omega⟩
    have hlen : (its.flatMap itemB).length ≤ 50 * its.length := by
      have : ∀ its : List (Int × ByteArray), (∀ p ∈ its, 0 ≤ p.1 ∧ p.1 ≤ 18446744073709551615 ∧ p.2.size ≤ 20) → (its.flatMap itemB).length ≤ 50 * its.length := by
        intro its
        induction its with
        | nil => simp
        | cons p r ih =>
          intro h
          have h1 := ih (fun q hq => h q (List.mem_cons_of_mem _ hq))
          have h2 := itemB_len (h p (List.mem_cons_self ..)).2.2
          simp only [List.flatMap_cons, List.length_append, List.length_cons]; omega
      exact this its hi
    have w1 : -9223372036854775808 ≤ IntKind.wrap .i64 (v : Int) ∧ IntKind.wrap .i64 (v : Int) ≤ 9223372036854775807 := by rw [wrap_i64']; omega
    have e1 := encU_len v
    have e2 := encU_len (zig (IntKind.wrap .i64 (v : Int)))
    have hi' : ∀ p ∈ its ++ [((v : Int), s)], 0 ≤ p.1 ∧ p.1 ≤ 18446744073709551615 ∧ p.2.size ≤ 20 := by
      intro p hp
      rcases List.mem_append.1 hp with hp | hp
      · exact hi p hp
      · simp only [List.mem_singleton] at hp; subst hp; exact ⟨hu0, hu1, by simp only; omega⟩
    obtain ⟨its', l', a', h4, h5⟩ := ih (its ++ [((v : Int), s)]) l (a + 1 + 1 + r3) M (by simp; omega) (by omega) (by omega) (by omega) hi'
    refine ⟨its', l', a', ?_, h5⟩
    rw [← h4]
    have hk1 : ((((k + 1 : Nat) : Int)) > 0) := by omega
    simp only [loopM, testgatelaw03_WireBack_L1, hk1, decide_true, if_true, hr2, Option.bind_some, hu, hr3, hs]
    rw [appendS_some (by simp; omega) (by omega), appendS_some (by simp; omega) (by omega)]
    simp only [Option.bind_some]
    rw [wire_PutUint_eq (by omega) (by omega) (by omega)]
    simp only [Option.bind_some]
    rw [wire_PutInt_eq w1.1 w1.2 (by omega) (by simp only [List.length_append, Int.toNat_natCast]; omega)]
    simp only [Option.bind_some]
    rw [wire_PutText_eq (by omega) (by simp only [List.length_append, Int.toNat_natCast]; omega)]
    simp only [Option.bind_some]
    rw [wi64 (x := ((k + 1 : Nat) : Int) - 1) (by omega) (by omega)]
    have ek : ((k + 1 : Nat) : Int) - 1 = (k : Int) := by omega
    rw [ek]
    simp [itemB, List.append_assoc]

theorem back_loop2 {N : Nat} (its : List (Int × ByteArray)) (l' : List Int) (a' : Int) (hN : 1000 < N) (hl : its.length ≤ 8) (hi : ∀ p ∈ its, 0 ≤ p.1 ∧ p.1 ≤ 18446744073709551615 ∧ p.2.size ≤ 20) :
    ∀ (pre rest : List (Int × ByteArray)) (M : Nat), pre ++ rest = its → rest.length < M →
    loopM (testgatelaw03_WireBack_L2 N (its.flatMap itemB, its.map (·.1), its.map (·.2), l', a')) M (((pre.flatMap itemB).length : Int), (pre.length : Int)) = some (Sum.inl (((its.flatMap itemB).length : Nat) : Int))
  | _, _, 0, _, h => absurd h (Nat.not_lt_zero _)
  | pre, [], M + 1, hp, _ => by
    simp only [List.append_nil] at hp
    subst hp
    simp [loopM, testgatelaw03_WireBack_L2]
  | pre, p :: rest, M + 1, hp, hM => by
    have hm := back_loop2 (N := N) its l' a' hN hl hi (pre ++ [p]) rest M (by simp [← hp]) (by simp at hM; omega)
    rw [← hm]
    have hpi := hi p (by rw [← hp]; simp)
    obtain ⟨u, s⟩ := p
    simp only at hpi
    obtain ⟨v, rfl⟩ : ∃ v : Nat, u = v := ⟨u.toNat, by omega⟩
    have w1 : -9223372036854775808 ≤ IntKind.wrap .i64 (v : Int) ∧ IntKind.wrap .i64 (v : Int) ≤ 9223372036854775807 := by rw [wrap_i64']; omega
    have hflat : its.flatMap itemB = pre.flatMap itemB ++ (encU v ++ (encU (zig (IntKind.wrap .i64 (v : Int))) ++ (encU s.size ++ (s.data.toList ++ rest.flatMap itemB)))) := by
      rw [← hp]; simp [itemB, List.append_assoc]
    have hlen : (its.flatMap itemB).length ≤ 400 := by
      have : ∀ its : List (Int × ByteArray), (∀ p ∈ its, 0 ≤ p.1 ∧ p.1 ≤ 18446744073709551615 ∧ p.2.size ≤ 20) → (its.flatMap itemB).length ≤ 50 * its.length := by
        intro its
        induction its with
        | nil => simp
        | cons p r ih =>
          intro h
          have h1 := ih (fun q hq => h q (List.mem_cons_of_mem _ hq))
          have h2 := itemB_len (h p (List.mem_cons_self ..)).2.2
          simp only [List.flatMap_cons, List.length_append, List.length_cons]; omega
      have := this its hi; omega
    have hlt : pre.length < (its.map (·.1)).length := by rw [← hp]; simp
    have hlt2 : pre.length < (its.map (·.2)).length := by rw [← hp]; simp
    have hg1 : (its.map (·.1))[pre.length] = (v : Int) := by simp [← hp]
    have hg2 : (its.map (·.2))[pre.length] = s := by simp [← hp]
    have hpl : pre.length ≤ its.length := by rw [← hp]; simp
    have hc : ((pre.length : Int) < ((its.map (·.1)).length : Int)) := by omega
    generalize hx : its.flatMap itemB = x at *
    have r1 := uintP_enc (pre := pre.flatMap itemB) (post := encU (zig (IntKind.wrap .i64 (v : Int))) ++ (encU s.size ++ (s.data.toList ++ rest.flatMap itemB))) (n := v) (by omega)
    rw [← hflat] at r1
    have r2 := intP_enc (pre := pre.flatMap itemB ++ encU v) (post := encU s.size ++ (s.data.toList ++ rest.flatMap itemB)) w1.1 w1.2
    rw [List.append_assoc, ← hflat] at r2
    have r3 := textP_enc (pre := pre.flatMap itemB ++ encU v ++ encU (zig (IntKind.wrap .i64 (v : Int)))) (post := rest.flatMap itemB) (s := s) (most := 20) (by omega) (by omega)
    rw [List.append_assoc, List.append_assoc, ← hflat] at r3
    rw [List.length_append] at r2
    rw [List.length_append, List.length_append] at r3
    simp only [loopM, testgatelaw03_WireBack_L2, hc, decide_true, if_true, Option.bind_some, wire_Uint_eq (N := N) (l := x) (by omega) (by omega), r1, wire_Int_eq (N := N) (l := x) (by omega) (by omega), r2,
      wire_Text_eq (N := N) (l := x) (most := 20) (by omega) (by omega) (by omega), r3, idx_nat hlt, idx_nat hlt2, hg1, hg2, bne_self_eq_false, beq_self_eq_true, Bool.not_true, Bool.false_eq_true, if_false]
    rw [wi64 (x := (pre.length : Int) + 1) (by omega) (by omega)]
    have q1 : (List.flatMap itemB (pre ++ [((v : Int), s)])).length = (List.flatMap itemB pre).length + (encU v).length + (encU (zig (IntKind.wrap .i64 (v : Int)))).length + (encU s.size).length + s.size := by
      simp only [List.flatMap_append, List.flatMap_cons, List.flatMap_nil, List.length_append, List.length_nil, itemB, Int.toNat_natCast, Array.length_toList, ByteArray.size_data]; omega
    have q2 : (((pre ++ [((v : Int), s)]).length : Nat) : Int) = (pre.length : Int) + 1 := by simp
    rw [q1, q2]

theorem testgatelaw03_WireBack_true (l : List Int) (_gl : l.length * 8 ≤ reachBytes ∧ ∀ x ∈ l, (Lit.int .i64 x).wf = true) (n : Int) (gn : (Lit.int .u64 n).wf = true) : ∃ N, testgatelaw03_WireBack N l n = some true := by
  have bn := bounds_u64 gn
  refine ⟨2000, ?_⟩
  obtain ⟨k, hk, hk0, hk1⟩ := next_ok (N := 2000) (l := l) (a := 0) (n := 8) (by omega) (by omega) (by omega)
  have hk1 := hk1 (by omega)
  obtain ⟨j, rfl⟩ : ∃ j : Nat, k = j := ⟨k.toNat, by omega⟩
  obtain ⟨its, l', a', h1, h2, h3⟩ := back_loop1 (N := 2000) n bn.1 bn.2 (by omega) j [] l (0 + 1) 2000 (by simp; omega) (by omega) (by omega) (by omega) (by simp)
  have h4 := back_loop2 (N := 2000) its l' a' (by omega) h2 h3 [] its 2000 rfl (by omega)
  simp only [List.flatMap_nil, List.map_nil, List.length_nil] at h1 h4
  simp only [testgatelaw03_WireBack, hk, Option.bind_some, h1]
  have e0 : ((0 : Nat) : Int) = 0 := rfl
  rw [e0] at h4
  simp [h4, wire_awake]
end Go.Proofs.Ytgkjigejejofkaa
