/- MADE BY gen.py: plain functions and the proofs that the Go functions compute them. No condition but those of each theorem. -/
import Derived.Test.YtgkjigejejofkaaProg
import Derived.Test.YtgkjigejejofkaaMap
import Derived.Test.YtgkjigejejofkaaTConq9B
namespace Go.Proofs.Ytgkjigejejofkaa
open Go Go.Dc

def testgateref13_Encode_L1 (N : Nat) (p0 : List ByteArray) (s1 : List (UInt8) × Int) : Option ((List (UInt8) × Int) ⊕ ((List (UInt8)) ⊕ (List UInt8 × Int))) :=
  if (decide (s1.2 < (List.length p0 : Int))) = true then ((idx p0 s1.2).bind fun x1 => (bytesOf x1).bind fun l1 => (testgateref03_Frame N (3, l1)).bind fun y2 => if (y2.2 != 0) = true then (some (.inr (.inr ((([] : List (UInt8)), y2.2))))) else ((appendS 1 s1.1 y2.1).bind fun l2 => some (.inl (l2, IntKind.wrap .i64 (s1.2 + 1))))) else (some (.inr (.inl s1.1)))

def testgateref13_Encode (N : Nat) (p0 : List ByteArray) : Option (List UInt8 × Int) :=
  (testgateref13_Check N p0).bind fun y1 => if (y1 != 0) = true then (some (([] : List (UInt8)), y1)) else ((loopM (testgateref13_Encode_L1 N p0) N (([] : List (UInt8)), 0)).bind fun out1 => (match out1 with | .inl o1 => some (o1, 0) | .inr (z) => some z))

set_option maxHeartbeats 4000000 in
set_option maxRecDepth 100000 in
theorem testgateref13_Encode_ok {N : Nat} {m : Mem} {own : List Piece} {w : World} {p0 : List ByteArray} {a1 : Option Addr} {c1 : Nat} {r : List UInt8 × Int} (st : St m (own) w) (r1 : RepS cStr m a1 c1 p0) (hr : testgateref13_Encode N p0 = some r) : Calls Go.Proofs.Try.prog 57 #[.agg #[.slice a1 (List.length p0) c1]] w fun e w' => ∃ (ra1 : Option Addr) (rc1 : Nat) (m' : Mem), e = .returned (.tuple #[.slice ra1 (List.length r.1) rc1, .int .i64 r.2]) ∧ m.le m' ∧ St m' (.room ra1 (List.length r.1) rc1 5 1 :: own) w' ∧ RepS cU8 m' ra1 rc1 r.1 := by
  unfold testgateref13_Encode at hr
  have hm := m.le_refl
  refine W_calls Go.Proofs.Try.func57 rfl Go.Proofs.Try.ntmps57 [(0, .agg #[.slice a1 (List.length p0) c1])] (by kernel_rfl) rfl ?_
  refine W_seq ?_
  refine W_region ?_
  refine WO_one rfl (One_box (d := 1) (e := 24) (x := (.tmp 0)) (.agg #[.slice a1 (List.length p0) c1]) (by kernel_rfl) rfl (by kernel_rfl) st ?_)
  clear st
  intro b1 m1 w1 hle1 st hb1
  have hm := Mem.le_trans hm hle1
  have r1 := r1.mono hle1
  refine WO_seg 2 [] (by kernel_rfl) (by kernel_rfl) ?_
  refine WO_end rfl ?_
  refine X_then ?_
  refine W_seq ?_
  refine W_seq ?_
  refine W_region ?_
  refine WO_one rfl (One_load_row (d := 10) (t := 24) (x := (.tmp 1)) (.agg #[.slice a1 (List.length p0) c1]) (by kernel_rfl) rfl (show evL _ _ = some (.pointer (some ⟨b1, 0, none⟩)) from (by kernel_rfl)) st hb1 (by kernel_rfl) ?_)
  replace hr := bindS hr
  obtain ⟨y1, hx1, hr⟩ := hr
  refine WO_one rfl (One_fn 11 18 #[.agg #[.slice a1 (List.length p0) c1]] (by kernel_rfl) rfl ?_)
  refine (testgateref13_Check_ok st r1 hx1).mono ?_
  clear st
  rintro _ w2 ⟨m2, rfl, hle2, st⟩
  refine ⟨_, rfl, ?_⟩
  have hm := Mem.le_trans hm hle2
  have hb1 := hb1.mono hle2
  have r1 := r1.mono hle2
  refine WO_seg 1 [(4, .int .i64 y1)] (by kernel_rfl) (by kernel_rfl) ?_
  refine WO_end rfl ?_
  refine X_then ?_
  refine W_seq ?_
  refine W_region ?_
  refine WO_seg 2 [(13, .bool (y1 != 0))] (by kernel_rfl) (by kernel_rfl) ?_
  refine WO_end rfl ?_
  refine X_then ?_
  refine W_cond (y1 != 0) (by kernel_rfl) ?_ ?_
  · intro hc
    rw [if_pos hc] at hr
    refine W_seq ?_
    refine W_region ?_
    refine WO_seg 3 [(2, .slice none (List.length ([] : List (UInt8))) 0), (3, .int .i64 y1)] (by kernel_rfl) (by kernel_rfl) ?_
    refine WO_end rfl ?_
    refine X_then ?_
    refine W_ret ?_
    refine X_then_ret ?_
    obtain rfl := Option.some.inj hr
    refine X_ret [.tmp 2, .tmp 3] [.slice none (List.length ([] : List (UInt8))) 0, .int .i64 y1] rfl (ResAll.cons (ResAt.tmp (by kernel_rfl)) (ResAll.cons (ResAt.tmp (by kernel_rfl)) ResAll.nil)) ?_
    have st := st.nilroom 5 1
    exact ⟨none, 0, m2, rfl, hm, st, (RepS.nil _ _)⟩
  · intro hc
    rw [if_neg (not_true hc)] at hr
    refine W_skip ?_
    refine X_then ?_
    refine W_seq ?_
    refine W_region ?_
    refine WO_seg 1 [(5, .slice none (List.length ([] : List (UInt8))) 0)] (by kernel_rfl) (by kernel_rfl) ?_
    refine WO_end rfl ?_
    refine X_then ?_
    refine W_seq ?_
    refine W_seq ?_
    refine W_region ?_
    refine WO_seg 1 [(15, .pointer (some ⟨b1, 0, none⟩))] (by kernel_rfl) (by kernel_rfl) ?_
    refine WO_one rfl (One_load_row (d := 16) (t := 22) (x := (.tmp 15)) (.slice a1 (List.length p0) c1) (by kernel_rfl) rfl (show evL _ _ = some (.pointer (some ⟨b1, 0, none⟩)) from (by kernel_rfl)) st hb1 (by kernel_rfl) ?_)
    refine WO_seg 2 [(17, .int .i64 (List.length p0 : Int)), (18, .int .i64 0)] (by kernel_rfl) (by kernel_rfl) ?_
    refine WO_end rfl ?_
    refine X_then ?_
    refine W_block ?_
    replace hr := bindS hr
    obtain ⟨out1, hr, hrKu1⟩ := hr
    refine W_cut (.exit 0) (fun L' w' => ∃ (o1 : List (UInt8)) (a2 : Option Addr) (c2 : Nat) (m3 : Mem), (.inl o1) = out1 ∧ L' = [(5, .slice a2 (List.length o1) c2)] ∧ m.le m3 ∧ St m3 (.room a2 (List.length o1) c2 5 1 :: own) w' ∧ RepS cU8 m3 a2 c2 o1) ?_ ?_
    · clear hr st
      rintro _ w3 ⟨o1, a2, c2, m3, rfl, rfl, hm, st, r2⟩
      have hr := hrKu1
      clear hrKu1
      dsimp only at hr
      refine X_block_eq ?_
      refine X_then ?_
      refine W_seq ?_
      refine W_region ?_
      refine WO_seg 3 [(2, .slice a2 (List.length o1) c2), (3, .int .i64 0)] (by kernel_rfl) (by kernel_rfl) ?_
      refine WO_end rfl ?_
      refine X_then ?_
      refine W_ret ?_
      obtain rfl := Option.some.inj hr
      refine X_ret [.tmp 2, .tmp 3] [.slice a2 (List.length o1) c2, .int .i64 0] rfl (ResAll.cons (ResAt.tmp (by kernel_rfl)) (ResAll.cons (ResAt.tmp (by kernel_rfl)) ResAll.nil)) ?_
      exact ⟨a2, c2, m3, rfl, hm, st, r2⟩
    intro K0_u1
    have st := st.nilroom 5 1
    refine W_env _ (by kernel_rfl) (W_loop (fun k1 L' w' => ∃ (s1 : List (UInt8) × Int) (a3 : Option Addr) (c3 : Nat) (m4 : Mem), loopM (testgateref13_Encode_L1 N p0) k1 s1 = some out1 ∧ L' = [(5, .slice a3 (List.length s1.1) c3), (16, .slice a1 (List.length p0) c1), (17, .int .i64 (List.length p0 : Int)), (18, .int .i64 s1.2)] ∧ m.le m4 ∧ St m4 (.room a3 (List.length s1.1) c3 5 1 :: own) w' ∧ RepS cU8 m4 a3 c3 s1.1 ∧ RepS cStr m4 a1 c1 p0) N ⟨(([] : List (UInt8)), 0), none, 0, m2, hr, rfl, hm, st, (RepS.nil _ _), r1⟩ ?_)
    clear st hr
    rintro k1 _ w4 ⟨s1, a3, c3, m4, hL, rfl, hm, st, r3, r1⟩
    rcases k1 with _ | k1
    · exact loopM_zero hL
    · obtain ⟨qu1, hr, hSu1, hBu1⟩ := loopM_succ hL
      clear hL
      unfold testgateref13_Encode_L1 at hr
      refine W_seq ?_
      refine W_region ?_
      refine WO_seg 1 [(19, .bool (decide (s1.2 < (List.length p0 : Int))))] (by kernel_rfl) (by kernel_rfl) ?_
      refine WO_end rfl ?_
      refine X_then ?_
      refine W_seq ?_
      refine W_cond (decide (s1.2 < (List.length p0 : Int))) (by kernel_rfl) ?_ ?_
      · intro hc
        rw [if_pos hc] at hr
        refine W_skip ?_
        refine X_then ?_
        refine W_seq ?_
        refine W_block ?_
        refine W_seq ?_
        refine W_region ?_
        replace hr := bindS hr
        obtain ⟨x1, hx2, hr⟩ := hr
        refine WO_one rfl (One_index (d := 20) (t := 22) (e := 9) (x := (.tmp 16)) (y := (.tmp 18)) cStr (by kernel_rfl) rfl (show evL _ _ = some (.slice a1 (List.length p0) c1) from (by kernel_rfl)) (show evL _ _ = some (.int .i64 s1.2) from (by kernel_rfl)) (by kernel_rfl) r1 hx2 ?_)
        rintro b2 f1 cs1 rfl hq1
        refine WO_one rfl (One_load_row (d := 21) (t := 9) (x := (.tmp 20)) (.string x1) (by kernel_rfl) rfl (show evL _ _ = some (.pointer (some ⟨b2, f1, none⟩)) from (by kernel_rfl)) st hq1 (by kernel_rfl) ?_)
        refine WO_seg 1 [(7, .string x1)] (by kernel_rfl) (by kernel_rfl) ?_
        refine WO_end rfl ?_
        refine X_then ?_
        refine W_seq ?_
        refine W_region ?_
        refine WO_seg 1 [(23, .string x1)] (by kernel_rfl) (by kernel_rfl) ?_
        replace hr := bindS hr
        obtain ⟨l1, hx3, hr⟩ := hr
        refine WO_one rfl (One_strBytes (d := 24) (t1 := 9) (t2 := 50) (e := 5) (x := (.tmp 23)) (by kernel_rfl) rfl (show evL _ _ = some (.string x1) from (by kernel_rfl)) (by kernel_rfl) (by kernel_rfl) st hx3 ?_)
        clear st
        intro b3 c4 m5 w5 hle3 st r4
        have hm := Mem.le_trans hm hle3
        have r3 := r3.mono hle3
        have r1 := r1.mono hle3
        refine WO_seg 1 [(25, .agg #[.int .i64 3, .slice (some ⟨b3, 0, none⟩) (List.length l1) c4])] (by kernel_rfl) (by kernel_rfl) ?_
        replace hr := bindS hr
        obtain ⟨y2, hx4, hr⟩ := hr
        refine WO_one rfl (One_fn 26 32 #[.agg #[.int .i64 3, .slice (some ⟨b3, 0, none⟩) (List.length l1) c4]] (by kernel_rfl) rfl ?_)
        refine (testgateref03_Frame_ok st r4 hx4).mono ?_
        clear st
        rintro _ w6 ⟨a4, c5, m6, rfl, hle4, st, r5⟩
        refine ⟨_, rfl, ?_⟩
        have hm := Mem.le_trans hm hle4
        have r3 := r3.mono hle4
        have r1 := r1.mono hle4
        have r4 := r4.mono hle4
        refine WO_seg 5 [(8, .slice a4 (List.length y2.1) c5), (9, .int .i64 y2.2)] (by kernel_rfl) (by kernel_rfl) ?_
        refine WO_end rfl ?_
        refine X_then ?_
        refine W_seq ?_
        refine W_seq ?_
        refine W_region ?_
        refine WO_seg 2 [(30, .bool (y2.2 != 0))] (by kernel_rfl) (by kernel_rfl) ?_
        refine WO_end rfl ?_
        refine X_then ?_
        refine W_cond (y2.2 != 0) (by kernel_rfl) ?_ ?_
        · intro hc
          rw [if_pos hc] at hr
          refine W_seq ?_
          refine W_region ?_
          refine WO_seg 3 [(2, .slice none (List.length ([] : List (UInt8))) 0), (3, .int .i64 y2.2)] (by kernel_rfl) (by kernel_rfl) ?_
          refine WO_end rfl ?_
          have st := st.tail
          have st := st.tail
          refine X_then ?_
          refine W_ret ?_
          refine X_then_ret ?_
          refine X_block_ret ?_
          refine X_then_ret ?_
          obtain rfl := Option.some.inj hr
          have ho := hBu1 _ rfl
          subst ho
          have hr := hrKu1
          dsimp only at hr
          refine X_then_ret ?_
          refine X_block_ret ?_
          refine X_then_ret ?_
          obtain rfl := Option.some.inj hr
          refine X_ret [.tmp 2, .tmp 3] [.slice none (List.length ([] : List (UInt8))) 0, .int .i64 y2.2] rfl (ResAll.cons (ResAt.tmp (by kernel_rfl)) (ResAll.cons (ResAt.tmp (by kernel_rfl)) ResAll.nil)) ?_
          have st := st.nilroom 5 1
          exact ⟨none, 0, m6, rfl, hm, st, (RepS.nil _ _)⟩
        · intro hc
          rw [if_neg (not_true hc)] at hr
          refine W_skip ?_
          refine X_then ?_
          refine W_region ?_
          refine WO_seg 2 [(32, .slice a3 (List.length s1.1) c3), (33, .slice a4 (List.length y2.1) c5)] (by kernel_rfl) (by kernel_rfl) ?_
          have st := st.front1
          replace hr := bindS hr
          obtain ⟨l2, hx5, hr⟩ := hr
          refine WO_one rfl (One_append (d := 34) (t := 50) (u := 50) (e := 5) (by_ := 1) (x := (.tmp 32)) (y := (.tmp 33)) cU8 (by kernel_rfl) rfl (show evL _ _ = some (.slice a3 (List.length s1.1) c3) from (by kernel_rfl)) (show evL _ _ = some (.slice a4 (List.length y2.1) c5) from (by kernel_rfl)) st (by kernel_rfl) (.inl (by kernel_rfl)) r3 r5.src hx5 ?_)
          clear st
          intro a5 c6 m7 w7 hle5 st r6
          have hm := Mem.le_trans hm hle5
          have r3 := r3.mono hle5
          have r1 := r1.mono hle5
          have r5 := r5.mono hle5
          refine WO_seg 1 [(5, .slice a5 (List.length l2) c6)] (by kernel_rfl) (by kernel_rfl) ?_
          refine WO_end rfl ?_
          have st := st.front1
          have st := st.tail
          refine X_block ?_
          refine X_then ?_
          refine W_region ?_
          refine WO_seg 2 [(18, .int .i64 (IntKind.wrap .i64 (s1.2 + 1)))] (by kernel_rfl) (by kernel_rfl) ?_
          refine WO_end rfl ?_
          obtain rfl := Option.some.inj hr
          have hL := hSu1 _ rfl
          exact X_env _ (by kernel_rfl) (X_round k1 (Nat.lt_succ_self _) ⟨(l2, IntKind.wrap .i64 (s1.2 + 1)), a5, c6, m7, hL, rfl, hm, st, r6, r1⟩)
      · intro hc
        rw [if_neg (not_true hc)] at hr
        refine W_exit ?_
        refine X_then_exit ?_
        obtain rfl := Option.some.inj hr
        have ho := hBu1 _ rfl
        refine X_then_exit ?_
        exact X_env _ (by kernel_rfl) (K0_u1 _ _ ⟨s1.1, a3, c3, m4, ho, rfl, hm, st, r3⟩)

def testgateref03_Uint_L1 (N : Nat) (p0 : List UInt8) (s1 : Int) : Option ((Int) ⊕ ((Int))) :=
  (if (decide (s1 < (List.length p0 : Int))) = true then ((idx p0 s1).bind fun x1 => some (decide ((x1.toNat : Int) ≥ 128))) else (some false) : Option (Bool)).bind fun o3 => if o3 = true then (some (.inl (IntKind.wrap .i64 (s1 + 1)))) else (some (.inr s1))

def testgateref03_Uint_L2 (N : Nat) (p0 : List UInt8) (p1 : Int) (s2 : Int × Int) : Option ((Int × Int) ⊕ ((Int))) :=
  if (decide (s2.2 ≥ p1)) = true then ((idx p0 s2.2).bind fun x5 => some (.inl (IntKind.wrap .u64 ((IntKind.wrap .u64 (s2.1 * 128)) + (IntKind.wrap .u64 (Int.tmod (x5.toNat : Int) 128))), IntKind.wrap .i64 (s2.2 - 1)))) else (some (.inr s2.1))

def testgateref03_Uint (N : Nat) (p0 : List UInt8) (p1 : Int) : Option (Int × Int × Int) :=
  (if (decide (p1 < 0)) = true then (some true) else (some (decide (p1 > (List.length p0 : Int)))) : Option (Bool)).bind fun o1 => if o1 = true then (some (0, 0, 3)) else ((loopM (testgateref03_Uint_L1 N p0) N p1).bind fun o2 => if (o2 == (List.length p0 : Int)) = true then (some (0, 0, 7)) else ((if (decide ((IntKind.wrap .i64 (o2 - p1)) ≥ 10)) = true then (some true) else (if ((IntKind.wrap .i64 (o2 - p1)) == 9) = true then ((idx p0 o2).bind fun x2 => if (decide ((x2.toNat : Int) > 1)) = true then (some true) else (if (decide (o2 > p1)) = true then ((idx p0 o2).bind fun x3 => some ((x3.toNat : Int) == 0)) else (some false))) else (if (decide (o2 > p1)) = true then ((idx p0 o2).bind fun x4 => some ((x4.toNat : Int) == 0)) else (some false))) : Option (Bool)).bind fun o4 => if o4 = true then (some (0, 0, 6)) else ((loopM (testgateref03_Uint_L2 N p0 p1) N (0, o2)).bind fun o5 => some (o5, IntKind.wrap .i64 (o2 + 1), 0))))

set_option maxHeartbeats 4000000 in
set_option maxRecDepth 100000 in
theorem testgateref03_Uint_ok {N : Nat} {m : Mem} {own : List Piece} {w : World} {p0 : List UInt8} {p1 : Int} {a1 : Option Addr} {c1 : Nat} {r : Int × Int × Int} (st : St m (own) w) (r1 : RepS cU8 m a1 c1 p0) (hr : testgateref03_Uint N p0 p1 = some r) : Calls Go.Proofs.Try.prog 50 #[.slice a1 (List.length p0) c1, .int .i64 p1] w fun e w' => ∃ (m' : Mem), e = .returned (.tuple #[.int .u64 r.1, .int .i64 r.2.1, .int .i64 r.2.2]) ∧ m.le m' ∧ St m' (own) w' := by
  unfold testgateref03_Uint at hr
  have hm := m.le_refl
  refine W_calls Go.Proofs.Try.func50 rfl Go.Proofs.Try.ntmps50 [(0, .slice a1 (List.length p0) c1), (1, .int .i64 p1)] (by kernel_rfl) rfl ?_
  refine W_seq ?_
  refine W_region ?_
  refine WO_seg 3 [(4, .int .u64 0)] (by kernel_rfl) (by kernel_rfl) ?_
  refine WO_end rfl ?_
  refine X_then ?_
  refine W_seq ?_
  refine W_seq ?_
  refine W_region ?_
  replace hr := bindS hr
  obtain ⟨o1, hr, hrK⟩ := hr
  refine WO_cut (j := 8) (fun L' w' => ∃ (m1 : Mem), L' = [(0, .slice a1 (List.length p0) c1), (1, .int .i64 p1), (4, .int .u64 0), (16, .bool o1)] ∧ m.le m1 ∧ St m1 (own) w' ∧ RepS cU8 m1 a1 c1 p0) ?_ ?_
  · clear hr st
    have hr := hrK
    clear hrK
    rintro _ w1 ⟨m1, rfl, hm, st, r1⟩
    refine WO_end rfl ?_
    refine X_then ?_
    refine W_cond o1 (by kernel_rfl) ?_ ?_
    · intro hc
      rw [if_pos hc] at hr
      refine W_seq ?_
      refine W_region ?_
      refine WO_seg 3 [(4, .int .u64 0), (5, .int .i64 0), (6, .int .i64 3)] (by kernel_rfl) (by kernel_rfl) ?_
      refine WO_end rfl ?_
      refine X_then ?_
      refine W_ret ?_
      refine X_then_ret ?_
      obtain rfl := Option.some.inj hr
      refine X_ret [.tmp 4, .tmp 5, .tmp 6] [.int .u64 0, .int .i64 0, .int .i64 3] rfl (ResAll.cons (ResAt.tmp (by kernel_rfl)) (ResAll.cons (ResAt.tmp (by kernel_rfl)) (ResAll.cons (ResAt.tmp (by kernel_rfl)) ResAll.nil))) ?_
      exact ⟨m1, rfl, hm, st⟩
    · intro hc
      rw [if_neg (not_true hc)] at hr
      refine W_skip ?_
      refine X_then ?_
      refine W_seq ?_
      refine W_region ?_
      refine WO_seg 2 [(7, .int .i64 p1)] (by kernel_rfl) (by kernel_rfl) ?_
      refine WO_end rfl ?_
      refine X_then ?_
      refine W_seq ?_
      refine W_block ?_
      replace hr := bindS hr
      obtain ⟨out1, hr, hrKu1⟩ := hr
      refine W_cut (.exit 0) (fun L' w' => ∃ (o2 : Int) (m2 : Mem), o2 = out1 ∧ L' = [(0, .slice a1 (List.length p0) c1), (1, .int .i64 p1), (4, .int .u64 0), (7, .int .i64 o2)] ∧ m.le m2 ∧ St m2 (own) w' ∧ RepS cU8 m2 a1 c1 p0) ?_ ?_
      · clear hr st
        rintro _ w2 ⟨o2, m2, rfl, rfl, hm, st, r1⟩
        have hr := hrKu1
        clear hrKu1
        refine X_block_eq ?_
        refine X_then ?_
        refine W_seq ?_
        refine W_seq ?_
        refine W_region ?_
        refine WO_seg 4 [(34, .bool (o2 == (List.length p0 : Int)))] (by kernel_rfl) (by kernel_rfl) ?_
        refine WO_end rfl ?_
        refine X_then ?_
        refine W_cond (o2 == (List.length p0 : Int)) (by kernel_rfl) ?_ ?_
        · intro hc
          rw [if_pos hc] at hr
          refine W_seq ?_
          refine W_region ?_
          refine WO_seg 3 [(4, .int .u64 0), (5, .int .i64 0), (6, .int .i64 7)] (by kernel_rfl) (by kernel_rfl) ?_
          refine WO_end rfl ?_
          refine X_then ?_
          refine W_ret ?_
          refine X_then_ret ?_
          obtain rfl := Option.some.inj hr
          refine X_ret [.tmp 4, .tmp 5, .tmp 6] [.int .u64 0, .int .i64 0, .int .i64 7] rfl (ResAll.cons (ResAt.tmp (by kernel_rfl)) (ResAll.cons (ResAt.tmp (by kernel_rfl)) (ResAll.cons (ResAt.tmp (by kernel_rfl)) ResAll.nil))) ?_
          exact ⟨m2, rfl, hm, st⟩
        · intro hc
          rw [if_neg (not_true hc)] at hr
          refine W_skip ?_
          refine X_then ?_
          refine W_seq ?_
          refine W_seq ?_
          refine W_region ?_
          replace hr := bindS hr
          obtain ⟨o4, hr, hrK⟩ := hr
          refine WO_cut (j := 29) (fun L' w' => ∃ (m5 : Mem), L' = [(0, .slice a1 (List.length p0) c1), (1, .int .i64 p1), (4, .int .u64 0), (7, .int .i64 o2), (63, .bool o4)] ∧ m.le m5 ∧ St m5 (own) w' ∧ RepS cU8 m5 a1 c1 p0) ?_ ?_
          · clear hr st
            have hr := hrK
            clear hrK
            rintro _ w5 ⟨m5, rfl, hm, st, r1⟩
            refine WO_end rfl ?_
            refine X_then ?_
            refine W_cond o4 (by kernel_rfl) ?_ ?_
            · intro hc
              rw [if_pos hc] at hr
              refine W_seq ?_
              refine W_region ?_
              refine WO_seg 3 [(4, .int .u64 0), (5, .int .i64 0), (6, .int .i64 6)] (by kernel_rfl) (by kernel_rfl) ?_
              refine WO_end rfl ?_
              refine X_then ?_
              refine W_ret ?_
              refine X_then_ret ?_
              obtain rfl := Option.some.inj hr
              refine X_ret [.tmp 4, .tmp 5, .tmp 6] [.int .u64 0, .int .i64 0, .int .i64 6] rfl (ResAll.cons (ResAt.tmp (by kernel_rfl)) (ResAll.cons (ResAt.tmp (by kernel_rfl)) (ResAll.cons (ResAt.tmp (by kernel_rfl)) ResAll.nil))) ?_
              exact ⟨m5, rfl, hm, st⟩
            · intro hc
              rw [if_neg (not_true hc)] at hr
              refine W_skip ?_
              refine X_then ?_
              refine W_seq ?_
              refine W_seq ?_
              refine W_region ?_
              refine WO_seg 2 [(8, .int .i64 o2)] (by kernel_rfl) (by kernel_rfl) ?_
              refine WO_end rfl ?_
              refine X_then ?_
              refine W_block ?_
              replace hr := bindS hr
              obtain ⟨out2, hr, hrKu3⟩ := hr
              refine W_cut (.exit 2) (fun L' w' => ∃ (o5 : Int) (m6 : Mem), o5 = out2 ∧ L' = [(4, .int .u64 o5), (7, .int .i64 o2)] ∧ m.le m6 ∧ St m6 (own) w') ?_ ?_
              · clear hr st
                rintro _ w6 ⟨o5, m6, rfl, rfl, hm, st⟩
                have hr := hrKu3
                clear hrKu3
                refine X_block_eq ?_
                refine X_then ?_
                refine W_seq ?_
                refine W_region ?_
                refine WO_seg 6 [(4, .int .u64 o5), (5, .int .i64 (IntKind.wrap .i64 (o2 + 1))), (6, .int .i64 0)] (by kernel_rfl) (by kernel_rfl) ?_
                refine WO_end rfl ?_
                refine X_then ?_
                refine W_ret ?_
                obtain rfl := Option.some.inj hr
                refine X_ret [.tmp 4, .tmp 5, .tmp 6] [.int .u64 o5, .int .i64 (IntKind.wrap .i64 (o2 + 1)), .int .i64 0] rfl (ResAll.cons (ResAt.tmp (by kernel_rfl)) (ResAll.cons (ResAt.tmp (by kernel_rfl)) (ResAll.cons (ResAt.tmp (by kernel_rfl)) ResAll.nil))) ?_
                exact ⟨m6, rfl, hm, st⟩
              intro K2_u3
              clear hrKu3
              refine W_env _ (by kernel_rfl) (W_loop (fun k2 L' w' => ∃ (s2 : Int × Int) (m7 : Mem), loopM (testgateref03_Uint_L2 N p0 p1) k2 s2 = some out2 ∧ L' = [(0, .slice a1 (List.length p0) c1), (1, .int .i64 p1), (4, .int .u64 s2.1), (7, .int .i64 o2), (8, .int .i64 s2.2)] ∧ m.le m7 ∧ St m7 (own) w' ∧ RepS cU8 m7 a1 c1 p0) N ⟨(0, o2), m5, hr, rfl, hm, st, r1⟩ ?_)
              clear st hr
              rintro k2 _ w7 ⟨s2, m7, hL, rfl, hm, st, r1⟩
              rcases k2 with _ | k2
              · exact loopM_zero hL
              · obtain ⟨qu3, hr, hSu3, hBu3⟩ := loopM_succ hL
                clear hL
                unfold testgateref03_Uint_L2 at hr
                refine W_seq ?_
                refine W_seq ?_
                refine W_region ?_
                refine WO_seg 3 [(67, .bool (decide (s2.2 ≥ p1)))] (by kernel_rfl) (by kernel_rfl) ?_
                refine WO_end rfl ?_
                refine X_then ?_
                refine W_cond (decide (s2.2 ≥ p1)) (by kernel_rfl) ?_ ?_
                · intro hc
                  rw [if_pos hc] at hr
                  refine W_skip ?_
                  refine X_then ?_
                  refine W_seq ?_
                  refine W_block ?_
                  refine W_region ?_
                  refine WO_seg 4 [(71, .int .u64 (IntKind.wrap .u64 (s2.1 * 128))), (72, .slice a1 (List.length p0) c1), (73, .int .i64 s2.2)] (by kernel_rfl) (by kernel_rfl) ?_
                  replace hr := bindS hr
                  obtain ⟨x5, hx5, hr⟩ := hr
                  refine WO_one rfl (One_index (d := 74) (t := 50) (e := 5) (x := (.tmp 72)) (y := (.tmp 73)) cU8 (by kernel_rfl) rfl (show evL _ _ = some (.slice a1 (List.length p0) c1) from (by kernel_rfl)) (show evL _ _ = some (.int .i64 s2.2) from (by kernel_rfl)) (by kernel_rfl) r1 hx5 ?_)
                  rintro b5 f5 cs5 rfl hq5
                  refine WO_one rfl (One_load_row (d := 75) (t := 5) (x := (.tmp 74)) (.int .u8 (x5.toNat : Int)) (by kernel_rfl) rfl (show evL _ _ = some (.pointer (some ⟨b5, f5, none⟩)) from (by kernel_rfl)) st hq5 (by kernel_rfl) ?_)
                  refine WO_seg 4 [(4, .int .u64 (IntKind.wrap .u64 ((IntKind.wrap .u64 (s2.1 * 128)) + (IntKind.wrap .u64 (Int.tmod (x5.toNat : Int) 128)))))] (by kernel_rfl) (by kernel_rfl) ?_
                  refine WO_end rfl ?_
                  refine X_block ?_
                  refine X_then ?_
                  refine W_region ?_
                  refine WO_seg 3 [(8, .int .i64 (IntKind.wrap .i64 (s2.2 - 1)))] (by kernel_rfl) (by kernel_rfl) ?_
                  refine WO_end rfl ?_
                  obtain rfl := Option.some.inj hr
                  have hL := hSu3 _ rfl
                  exact X_env _ (by kernel_rfl) (X_round k2 (Nat.lt_succ_self _) ⟨(IntKind.wrap .u64 ((IntKind.wrap .u64 (s2.1 * 128)) + (IntKind.wrap .u64 (Int.tmod (x5.toNat : Int) 128))), IntKind.wrap .i64 (s2.2 - 1)), m7, hL, rfl, hm, st, r1⟩)
                · intro hc
                  rw [if_neg (not_true hc)] at hr
                  refine W_exit ?_
                  refine X_then_exit ?_
                  obtain rfl := Option.some.inj hr
                  have ho := hBu3 _ rfl
                  refine X_then_exit ?_
                  exact X_env _ (by kernel_rfl) (K2_u3 _ _ ⟨s2.1, m7, ho, rfl, hm, st⟩)
          · intro K
            clear hrK
            refine WO_seg 5 [(39, .bool (decide ((IntKind.wrap .i64 (o2 - p1)) ≥ 10)))] (by kernel_rfl) (by kernel_rfl) ?_
            rcases bcases (decide ((IntKind.wrap .i64 (o2 - p1)) ≥ 10)) with hc | hc
            · rw [if_pos hc] at hr
              refine WO_fact (t := 39) (b := true) (decide ((IntKind.wrap .i64 (o2 - p1)) ≥ 10)) (by kernel_rfl) hc ?_
              refine WO_seg 24 [(63, .bool true)] (by kernel_rfl) (by kernel_rfl) ?_
              obtain rfl := Option.some.inj hr
              exact WO_env _ (by kernel_rfl) (K _ _ ⟨m2, rfl, hm, st, r1⟩)
            · rw [if_neg (not_true hc)] at hr
              refine WO_fact (t := 39) (b := false) (decide ((IntKind.wrap .i64 (o2 - p1)) ≥ 10)) (by kernel_rfl) hc ?_
              refine WO_seg 5 [(44, .bool ((IntKind.wrap .i64 (o2 - p1)) == 9))] (by kernel_rfl) (by kernel_rfl) ?_
              rcases bcases ((IntKind.wrap .i64 (o2 - p1)) == 9) with hc | hc
              · rw [if_pos hc] at hr
                refine WO_fact (t := 44) (b := true) ((IntKind.wrap .i64 (o2 - p1)) == 9) (by kernel_rfl) hc ?_
                refine WO_seg 2 [(45, .slice a1 (List.length p0) c1), (46, .int .i64 o2)] (by kernel_rfl) (by kernel_rfl) ?_
                replace hr := bindS hr
                obtain ⟨x2, hx2, hr⟩ := hr
                refine WO_one rfl (One_index (d := 47) (t := 50) (e := 5) (x := (.tmp 45)) (y := (.tmp 46)) cU8 (by kernel_rfl) rfl (show evL _ _ = some (.slice a1 (List.length p0) c1) from (by kernel_rfl)) (show evL _ _ = some (.int .i64 o2) from (by kernel_rfl)) (by kernel_rfl) r1 hx2 ?_)
                rintro b2 f2 cs2 rfl hq2
                refine WO_one rfl (One_load_row (d := 48) (t := 5) (x := (.tmp 47)) (.int .u8 (x2.toNat : Int)) (by kernel_rfl) rfl (show evL _ _ = some (.pointer (some ⟨b2, f2, none⟩)) from (by kernel_rfl)) st hq2 (by kernel_rfl) ?_)
                refine WO_seg 4 [(52, .bool (decide ((x2.toNat : Int) > 1)))] (by kernel_rfl) (by kernel_rfl) ?_
                rcases bcases (decide ((x2.toNat : Int) > 1)) with hc | hc
                · rw [if_pos hc] at hr
                  refine WO_fact (t := 52) (b := true) (decide ((x2.toNat : Int) > 1)) (by kernel_rfl) hc ?_
                  refine WO_seg 11 [(63, .bool true)] (by kernel_rfl) (by kernel_rfl) ?_
                  obtain rfl := Option.some.inj hr
                  exact WO_env _ (by kernel_rfl) (K _ _ ⟨m2, rfl, hm, st, r1⟩)
                · rw [if_neg (not_true hc)] at hr
                  refine WO_fact (t := 52) (b := false) (decide ((x2.toNat : Int) > 1)) (by kernel_rfl) hc ?_
                  refine WO_seg 4 [(56, .bool (decide (o2 > p1)))] (by kernel_rfl) (by kernel_rfl) ?_
                  rcases bcases (decide (o2 > p1)) with hc | hc
                  · rw [if_pos hc] at hr
                    refine WO_fact (t := 56) (b := true) (decide (o2 > p1)) (by kernel_rfl) hc ?_
                    refine WO_seg 2 [(57, .slice a1 (List.length p0) c1), (58, .int .i64 o2)] (by kernel_rfl) (by kernel_rfl) ?_
                    replace hr := bindS hr
                    obtain ⟨x3, hx3, hr⟩ := hr
                    refine WO_one rfl (One_index (d := 59) (t := 50) (e := 5) (x := (.tmp 57)) (y := (.tmp 58)) cU8 (by kernel_rfl) rfl (show evL _ _ = some (.slice a1 (List.length p0) c1) from (by kernel_rfl)) (show evL _ _ = some (.int .i64 o2) from (by kernel_rfl)) (by kernel_rfl) r1 hx3 ?_)
                    rintro b3 f3 cs3 rfl hq3
                    refine WO_one rfl (One_load_row (d := 60) (t := 5) (x := (.tmp 59)) (.int .u8 (x3.toNat : Int)) (by kernel_rfl) rfl (show evL _ _ = some (.pointer (some ⟨b3, f3, none⟩)) from (by kernel_rfl)) st hq3 (by kernel_rfl) ?_)
                    refine WO_seg 3 [(63, .bool ((x3.toNat : Int) == 0))] (by kernel_rfl) (by kernel_rfl) ?_
                    obtain rfl := Option.some.inj hr
                    exact WO_env _ (by kernel_rfl) (K _ _ ⟨m2, rfl, hm, st, r1⟩)
                  · rw [if_neg (not_true hc)] at hr
                    refine WO_fact (t := 56) (b := false) (decide (o2 > p1)) (by kernel_rfl) hc ?_
                    refine WO_seg 7 [(63, .bool false)] (by kernel_rfl) (by kernel_rfl) ?_
                    obtain rfl := Option.some.inj hr
                    exact WO_env _ (by kernel_rfl) (K _ _ ⟨m2, rfl, hm, st, r1⟩)
              · rw [if_neg (not_true hc)] at hr
                refine WO_fact (t := 44) (b := false) ((IntKind.wrap .i64 (o2 - p1)) == 9) (by kernel_rfl) hc ?_
                refine WO_seg 12 [(52, .bool false), (56, .bool (decide (o2 > p1)))] (by kernel_rfl) (by kernel_rfl) ?_
                rcases bcases (decide (o2 > p1)) with hc | hc
                · rw [if_pos hc] at hr
                  refine WO_fact (t := 56) (b := true) (decide (o2 > p1)) (by kernel_rfl) hc ?_
                  refine WO_seg 2 [(57, .slice a1 (List.length p0) c1), (58, .int .i64 o2)] (by kernel_rfl) (by kernel_rfl) ?_
                  replace hr := bindS hr
                  obtain ⟨x4, hx4, hr⟩ := hr
                  refine WO_one rfl (One_index (d := 59) (t := 50) (e := 5) (x := (.tmp 57)) (y := (.tmp 58)) cU8 (by kernel_rfl) rfl (show evL _ _ = some (.slice a1 (List.length p0) c1) from (by kernel_rfl)) (show evL _ _ = some (.int .i64 o2) from (by kernel_rfl)) (by kernel_rfl) r1 hx4 ?_)
                  rintro b4 f4 cs4 rfl hq4
                  refine WO_one rfl (One_load_row (d := 60) (t := 5) (x := (.tmp 59)) (.int .u8 (x4.toNat : Int)) (by kernel_rfl) rfl (show evL _ _ = some (.pointer (some ⟨b4, f4, none⟩)) from (by kernel_rfl)) st hq4 (by kernel_rfl) ?_)
                  refine WO_seg 3 [(63, .bool ((x4.toNat : Int) == 0))] (by kernel_rfl) (by kernel_rfl) ?_
                  obtain rfl := Option.some.inj hr
                  exact WO_env _ (by kernel_rfl) (K _ _ ⟨m2, rfl, hm, st, r1⟩)
                · rw [if_neg (not_true hc)] at hr
                  refine WO_fact (t := 56) (b := false) (decide (o2 > p1)) (by kernel_rfl) hc ?_
                  refine WO_seg 7 [(63, .bool false)] (by kernel_rfl) (by kernel_rfl) ?_
                  obtain rfl := Option.some.inj hr
                  exact WO_env _ (by kernel_rfl) (K _ _ ⟨m2, rfl, hm, st, r1⟩)
      intro K0_u1
      clear hrKu1
      refine W_env _ (by kernel_rfl) (W_loop (fun k1 L' w' => ∃ (s1 : Int) (m3 : Mem), loopM (testgateref03_Uint_L1 N p0) k1 s1 = some out1 ∧ L' = [(0, .slice a1 (List.length p0) c1), (1, .int .i64 p1), (4, .int .u64 0), (7, .int .i64 s1)] ∧ m.le m3 ∧ St m3 (own) w' ∧ RepS cU8 m3 a1 c1 p0) N ⟨p1, m1, hr, rfl, hm, st, r1⟩ ?_)
      clear st hr
      rintro k1 _ w3 ⟨s1, m3, hL, rfl, hm, st, r1⟩
      rcases k1 with _ | k1
      · exact loopM_zero hL
      · obtain ⟨qu1, hr, hSu1, hBu1⟩ := loopM_succ hL
        clear hL
        unfold testgateref03_Uint_L1 at hr
        refine W_seq ?_
        refine W_seq ?_
        refine W_region ?_
        replace hr := bindS hr
        obtain ⟨o3, hr, hrK⟩ := hr
        refine WO_cut (j := 11) (fun L' w' => ∃ (m4 : Mem), L' = [(0, .slice a1 (List.length p0) c1), (1, .int .i64 p1), (4, .int .u64 0), (7, .int .i64 s1), (28, .bool o3)] ∧ m.le m4 ∧ St m4 (own) w' ∧ RepS cU8 m4 a1 c1 p0) ?_ ?_
        · clear hr st
          have hr := hrK
          clear hrK
          rintro _ w4 ⟨m4, rfl, hm, st, r1⟩
          refine WO_end rfl ?_
          refine X_then ?_
          refine W_cond o3 (by kernel_rfl) ?_ ?_
          · intro hc
            rw [if_pos hc] at hr
            refine W_skip ?_
            refine X_then ?_
            refine W_block ?_
            refine W_region ?_
            refine WO_seg 3 [(7, .int .i64 (IntKind.wrap .i64 (s1 + 1)))] (by kernel_rfl) (by kernel_rfl) ?_
            refine WO_end rfl ?_
            refine X_block ?_
            obtain rfl := Option.some.inj hr
            have hL := hSu1 _ rfl
            exact X_env _ (by kernel_rfl) (X_round k1 (Nat.lt_succ_self _) ⟨IntKind.wrap .i64 (s1 + 1), m4, hL, rfl, hm, st, r1⟩)
          · intro hc
            rw [if_neg (not_true hc)] at hr
            refine W_exit ?_
            refine X_then_exit ?_
            obtain rfl := Option.some.inj hr
            have ho := hBu1 _ rfl
            refine X_then_exit ?_
            exact X_env _ (by kernel_rfl) (K0_u1 _ _ ⟨s1, m4, ho, rfl, hm, st, r1⟩)
        · intro K
          clear hrK
          refine WO_seg 5 [(22, .bool (decide (s1 < (List.length p0 : Int))))] (by kernel_rfl) (by kernel_rfl) ?_
          rcases bcases (decide (s1 < (List.length p0 : Int))) with hc | hc
          · rw [if_pos hc] at hr
            refine WO_fact (t := 22) (b := true) (decide (s1 < (List.length p0 : Int))) (by kernel_rfl) hc ?_
            refine WO_seg 2 [(23, .slice a1 (List.length p0) c1), (24, .int .i64 s1)] (by kernel_rfl) (by kernel_rfl) ?_
            replace hr := bindS hr
            obtain ⟨x1, hx1, hr⟩ := hr
            refine WO_one rfl (One_index (d := 25) (t := 50) (e := 5) (x := (.tmp 23)) (y := (.tmp 24)) cU8 (by kernel_rfl) rfl (show evL _ _ = some (.slice a1 (List.length p0) c1) from (by kernel_rfl)) (show evL _ _ = some (.int .i64 s1) from (by kernel_rfl)) (by kernel_rfl) r1 hx1 ?_)
            rintro b1 f1 cs1 rfl hq1
            refine WO_one rfl (One_load_row (d := 26) (t := 5) (x := (.tmp 25)) (.int .u8 (x1.toNat : Int)) (by kernel_rfl) rfl (show evL _ _ = some (.pointer (some ⟨b1, f1, none⟩)) from (by kernel_rfl)) st hq1 (by kernel_rfl) ?_)
            refine WO_seg 2 [(28, .bool (decide ((x1.toNat : Int) ≥ 128)))] (by kernel_rfl) (by kernel_rfl) ?_
            obtain rfl := Option.some.inj hr
            exact WO_env _ (by kernel_rfl) (K _ _ ⟨m3, rfl, hm, st, r1⟩)
          · rw [if_neg (not_true hc)] at hr
            refine WO_fact (t := 22) (b := false) (decide (s1 < (List.length p0 : Int))) (by kernel_rfl) hc ?_
            refine WO_seg 6 [(28, .bool false)] (by kernel_rfl) (by kernel_rfl) ?_
            obtain rfl := Option.some.inj hr
            exact WO_env _ (by kernel_rfl) (K _ _ ⟨m3, rfl, hm, st, r1⟩)
  · intro K
    clear hrK
    refine WO_seg 3 [(11, .bool (decide (p1 < 0)))] (by kernel_rfl) (by kernel_rfl) ?_
    rcases bcases (decide (p1 < 0)) with hc | hc
    · rw [if_pos hc] at hr
      refine WO_fact (t := 11) (b := true) (decide (p1 < 0)) (by kernel_rfl) hc ?_
      refine WO_seg 5 [(16, .bool true)] (by kernel_rfl) (by kernel_rfl) ?_
      obtain rfl := Option.some.inj hr
      exact WO_env _ (by kernel_rfl) (K _ _ ⟨m, rfl, hm, st, r1⟩)
    · rw [if_neg (not_true hc)] at hr
      refine WO_fact (t := 11) (b := false) (decide (p1 < 0)) (by kernel_rfl) hc ?_
      refine WO_seg 5 [(16, .bool (decide (p1 > (List.length p0 : Int))))] (by kernel_rfl) (by kernel_rfl) ?_
      obtain rfl := Option.some.inj hr
      exact WO_env _ (by kernel_rfl) (K _ _ ⟨m, rfl, hm, st, r1⟩)

def testgateref03_Next (N : Nat) (p0 : List UInt8) (p1 : Int) : Option ((Int × List UInt8) × Int × Int) :=
  (if (decide (p1 < 0)) = true then (some true) else (some (decide (p1 > (List.length p0 : Int)))) : Option (Bool)).bind fun o1 => if o1 = true then (some ((0, ([] : List (UInt8))), 0, 3)) else (if (p1 == (List.length p0 : Int)) = true then (some ((0, ([] : List (UInt8))), 0, 7)) else ((idx p0 p1).bind fun x1 => if ((x1.toNat : Int) != 247) = true then (some ((0, ([] : List (UInt8))), 0, 6)) else (if ((IntKind.wrap .i64 (p1 + 1)) == (List.length p0 : Int)) = true then (some ((0, ([] : List (UInt8))), 0, 7)) else ((idx p0 (IntKind.wrap .i64 (p1 + 1))).bind fun x2 => if ((x2.toNat : Int) == 0) = true then (some ((0, ([] : List (UInt8))), 0, 6)) else ((testgateref03_Uint N p0 (IntKind.wrap .i64 (p1 + 2))).bind fun y1 => if (y1.2.2 != 0) = true then (some ((0, ([] : List (UInt8))), 0, y1.2.2)) else (if (decide (y1.1 > 2097152)) = true then (some ((0, ([] : List (UInt8))), 0, 2)) else (if (decide ((IntKind.wrap .i64 ((IntKind.wrap .i64 y1.1) + 4)) > (IntKind.wrap .i64 ((List.length p0 : Int) - y1.2.1)))) = true then (some ((0, ([] : List (UInt8))), 0, 7)) else ((subS p0 (IntKind.wrap .i64 (p1 + 1)) (IntKind.wrap .i64 (y1.2.1 + (IntKind.wrap .i64 y1.1)))).bind fun l1 => (testgateref03_Checksum N l1).bind fun y2 => ((idx p0 (IntKind.wrap .i64 (y1.2.1 + (IntKind.wrap .i64 y1.1)))).bind fun x3 => if ((x3.toNat : Int) != (IntKind.wrap .u8 y2)) = true then (some true) else ((idx p0 (IntKind.wrap .i64 ((IntKind.wrap .i64 (y1.2.1 + (IntKind.wrap .i64 y1.1))) + 1))).bind fun x4 => if ((x4.toNat : Int) != (IntKind.wrap .u8 (Int.fdiv y2 (2 ^ 8)))) = true then (some true) else ((idx p0 (IntKind.wrap .i64 ((IntKind.wrap .i64 (y1.2.1 + (IntKind.wrap .i64 y1.1))) + 2))).bind fun x5 => if ((x5.toNat : Int) != (IntKind.wrap .u8 (Int.fdiv y2 (2 ^ 16)))) = true then (some true) else ((idx p0 (IntKind.wrap .i64 ((IntKind.wrap .i64 (y1.2.1 + (IntKind.wrap .i64 y1.1))) + 3))).bind fun x6 => some ((x6.toNat : Int) != (IntKind.wrap .u8 (Int.fdiv y2 (2 ^ 24))))))) : Option (Bool)).bind fun o2 => if o2 = true then (some ((0, ([] : List (UInt8))), 0, 8)) else ((idx p0 (IntKind.wrap .i64 (p1 + 1))).bind fun x7 => (subS p0 y1.2.1 (IntKind.wrap .i64 (y1.2.1 + (IntKind.wrap .i64 y1.1)))).bind fun l2 => (appendS 1 ([] : List (UInt8)) l2).bind fun l3 => some ((IntKind.wrap .i64 (x7.toNat : Int), l3), IntKind.wrap .i64 ((IntKind.wrap .i64 (y1.2.1 + (IntKind.wrap .i64 y1.1))) + 4), 0))))))))))

set_option maxHeartbeats 4000000 in
set_option maxRecDepth 100000 in
theorem testgateref03_Next_ok {N : Nat} {m : Mem} {own : List Piece} {w : World} {p0 : List UInt8} {p1 : Int} {a1 : Option Addr} {c1 : Nat} {r : (Int × List UInt8) × Int × Int} (st : St m (own) w) (r1 : RepS cU8 m a1 c1 p0) (hr : testgateref03_Next N p0 p1 = some r) : Calls Go.Proofs.Try.prog 37 #[.slice a1 (List.length p0) c1, .int .i64 p1] w fun e w' => ∃ (ra1 : Option Addr) (rc1 : Nat) (m' : Mem), e = .returned (.tuple #[.agg #[.int .i64 r.1.1, .slice ra1 (List.length r.1.2) rc1], .int .i64 r.2.1, .int .i64 r.2.2]) ∧ m.le m' ∧ St m' (.room ra1 (List.length r.1.2) rc1 5 1 :: own) w' ∧ RepS cU8 m' ra1 rc1 r.1.2 := by
  unfold testgateref03_Next at hr
  have hm := m.le_refl
  refine W_calls Go.Proofs.Try.func37 rfl Go.Proofs.Try.ntmps37 [(0, .slice a1 (List.length p0) c1), (1, .int .i64 p1)] (by kernel_rfl) rfl ?_
  refine W_seq ?_
  refine W_region ?_
  refine WO_one rfl (One_alloc (d := 4) (e := 54) (.agg #[.int .i64 0, .slice none 0 0]) (by kernel_rfl) rfl (by kernel_rfl) st ?_)
  clear st
  intro b1 w1 st
  refine WO_seg 2 [] (by kernel_rfl) (by kernel_rfl) ?_
  refine WO_end rfl ?_
  refine X_then ?_
  refine W_seq ?_
  refine W_seq ?_
  refine W_region ?_
  replace hr := bindS hr
  obtain ⟨o1, hr, hrK⟩ := hr
  refine WO_cut (j := 8) (fun L' w' => ∃ (m1 : Mem), L' = [(0, .slice a1 (List.length p0) c1), (1, .int .i64 p1), (4, .pointer (some ⟨b1, 0, none⟩)), (18, .bool o1)] ∧ m.le m1 ∧ St m1 (.blk b1 (.cells #[.int .i64 0, .slice none (List.length ([] : List (UInt8))) 0] 54 (0, 0)) :: own) w' ∧ RepS cU8 m1 a1 c1 p0) ?_ ?_
  · clear hr st
    have hr := hrK
    clear hrK
    rintro _ w2 ⟨m1, rfl, hm, st, r1⟩
    refine WO_end rfl ?_
    refine X_then ?_
    refine W_cond o1 (by kernel_rfl) ?_ ?_
    · intro hc
      rw [if_pos hc] at hr
      refine W_seq ?_
      refine W_region ?_
      refine WO_one rfl (One_load_own (d := 19) (t := 54) (x := (.tmp 4)) (.agg #[.int .i64 0, .slice none (List.length ([] : List (UInt8))) 0]) (by kernel_rfl) rfl (show evL _ _ = some (.pointer (some ⟨b1, 0, none⟩)) from (by kernel_rfl)) st.head (by kernel_rfl) ?_)
      refine WO_one rfl (One_store (t := 54) (x := (.tmp 4)) (y := (.tmp 19)) (v := .agg #[.int .i64 0, .slice none (List.length ([] : List (UInt8))) 0]) (c' := #[.int .i64 0, .slice none (List.length ([] : List (UInt8))) 0]) (by kernel_rfl) (show evL _ _ = some (.pointer (some ⟨b1, 0, none⟩)) from (by kernel_rfl)) (show evL _ _ = some (.agg #[.int .i64 0, .slice none (List.length ([] : List (UInt8))) 0]) from (by kernel_rfl)) st (by kernel_rfl) (by kernel_rfl) ?_)
      clear st
      intro w3 st
      refine WO_seg 2 [(5, .int .i64 0), (6, .int .i64 3)] (by kernel_rfl) (by kernel_rfl) ?_
      refine WO_end rfl ?_
      refine X_then ?_
      refine W_ret ?_
      refine X_then_ret ?_
      obtain rfl := Option.some.inj hr
      refine X_ret [.cell 4 54, .tmp 5, .tmp 6] [.agg #[.int .i64 0, .slice none (List.length ([] : List (UInt8))) 0], .int .i64 0, .int .i64 3] rfl (ResAll.cons (ResAt.blk (v := .agg #[.int .i64 0, .slice none (List.length ([] : List (UInt8))) 0]) (o := 0) (by kernel_rfl) st.head (by kernel_rfl)) (ResAll.cons (ResAt.tmp (by kernel_rfl)) (ResAll.cons (ResAt.tmp (by kernel_rfl)) ResAll.nil))) ?_
      have st := st.nilroom 5 1
      have st := st.front1
      have st := st.tail
      exact ⟨none, 0, m1, rfl, hm, st, (RepS.nil _ _)⟩
    · intro hc
      rw [if_neg (not_true hc)] at hr
      refine W_skip ?_
      refine X_then ?_
      refine W_seq ?_
      refine W_seq ?_
      refine W_region ?_
      refine WO_seg 4 [(23, .bool (p1 == (List.length p0 : Int)))] (by kernel_rfl) (by kernel_rfl) ?_
      refine WO_end rfl ?_
      refine X_then ?_
      refine W_cond (p1 == (List.length p0 : Int)) (by kernel_rfl) ?_ ?_
      · intro hc
        rw [if_pos hc] at hr
        refine W_seq ?_
        refine W_region ?_
        refine WO_one rfl (One_load_own (d := 24) (t := 54) (x := (.tmp 4)) (.agg #[.int .i64 0, .slice none (List.length ([] : List (UInt8))) 0]) (by kernel_rfl) rfl (show evL _ _ = some (.pointer (some ⟨b1, 0, none⟩)) from (by kernel_rfl)) st.head (by kernel_rfl) ?_)
        refine WO_one rfl (One_store (t := 54) (x := (.tmp 4)) (y := (.tmp 24)) (v := .agg #[.int .i64 0, .slice none (List.length ([] : List (UInt8))) 0]) (c' := #[.int .i64 0, .slice none (List.length ([] : List (UInt8))) 0]) (by kernel_rfl) (show evL _ _ = some (.pointer (some ⟨b1, 0, none⟩)) from (by kernel_rfl)) (show evL _ _ = some (.agg #[.int .i64 0, .slice none (List.length ([] : List (UInt8))) 0]) from (by kernel_rfl)) st (by kernel_rfl) (by kernel_rfl) ?_)
        clear st
        intro w4 st
        refine WO_seg 2 [(5, .int .i64 0), (6, .int .i64 7)] (by kernel_rfl) (by kernel_rfl) ?_
        refine WO_end rfl ?_
        refine X_then ?_
        refine W_ret ?_
        refine X_then_ret ?_
        obtain rfl := Option.some.inj hr
        refine X_ret [.cell 4 54, .tmp 5, .tmp 6] [.agg #[.int .i64 0, .slice none (List.length ([] : List (UInt8))) 0], .int .i64 0, .int .i64 7] rfl (ResAll.cons (ResAt.blk (v := .agg #[.int .i64 0, .slice none (List.length ([] : List (UInt8))) 0]) (o := 0) (by kernel_rfl) st.head (by kernel_rfl)) (ResAll.cons (ResAt.tmp (by kernel_rfl)) (ResAll.cons (ResAt.tmp (by kernel_rfl)) ResAll.nil))) ?_
        have st := st.nilroom 5 1
        have st := st.front1
        have st := st.tail
        exact ⟨none, 0, m1, rfl, hm, st, (RepS.nil _ _)⟩
      · intro hc
        rw [if_neg (not_true hc)] at hr
        refine W_skip ?_
        refine X_then ?_
        refine W_seq ?_
        refine W_seq ?_
        refine W_region ?_
        refine WO_seg 2 [(25, .slice a1 (List.length p0) c1), (26, .int .i64 p1)] (by kernel_rfl) (by kernel_rfl) ?_
        replace hr := bindS hr
        obtain ⟨x1, hx1, hr⟩ := hr
        refine WO_one rfl (One_index (d := 27) (t := 50) (e := 5) (x := (.tmp 25)) (y := (.tmp 26)) cU8 (by kernel_rfl) rfl (show evL _ _ = some (.slice a1 (List.length p0) c1) from (by kernel_rfl)) (show evL _ _ = some (.int .i64 p1) from (by kernel_rfl)) (by kernel_rfl) r1 hx1 ?_)
        rintro b2 f1 cs1 rfl hq1
        refine WO_one rfl (One_load_row (d := 28) (t := 5) (x := (.tmp 27)) (.int .u8 (x1.toNat : Int)) (by kernel_rfl) rfl (show evL _ _ = some (.pointer (some ⟨b2, f1, none⟩)) from (by kernel_rfl)) st hq1 (by kernel_rfl) ?_)
        refine WO_seg 1 [(29, .bool ((x1.toNat : Int) != 247))] (by kernel_rfl) (by kernel_rfl) ?_
        refine WO_end rfl ?_
        refine X_then ?_
        refine W_cond ((x1.toNat : Int) != 247) (by kernel_rfl) ?_ ?_
        · intro hc
          rw [if_pos hc] at hr
          refine W_seq ?_
          refine W_region ?_
          refine WO_one rfl (One_load_own (d := 30) (t := 54) (x := (.tmp 4)) (.agg #[.int .i64 0, .slice none (List.length ([] : List (UInt8))) 0]) (by kernel_rfl) rfl (show evL _ _ = some (.pointer (some ⟨b1, 0, none⟩)) from (by kernel_rfl)) st.head (by kernel_rfl) ?_)
          refine WO_one rfl (One_store (t := 54) (x := (.tmp 4)) (y := (.tmp 30)) (v := .agg #[.int .i64 0, .slice none (List.length ([] : List (UInt8))) 0]) (c' := #[.int .i64 0, .slice none (List.length ([] : List (UInt8))) 0]) (by kernel_rfl) (show evL _ _ = some (.pointer (some ⟨b1, 0, none⟩)) from (by kernel_rfl)) (show evL _ _ = some (.agg #[.int .i64 0, .slice none (List.length ([] : List (UInt8))) 0]) from (by kernel_rfl)) st (by kernel_rfl) (by kernel_rfl) ?_)
          clear st
          intro w5 st
          refine WO_seg 2 [(5, .int .i64 0), (6, .int .i64 6)] (by kernel_rfl) (by kernel_rfl) ?_
          refine WO_end rfl ?_
          refine X_then ?_
          refine W_ret ?_
          refine X_then_ret ?_
          obtain rfl := Option.some.inj hr
          refine X_ret [.cell 4 54, .tmp 5, .tmp 6] [.agg #[.int .i64 0, .slice none (List.length ([] : List (UInt8))) 0], .int .i64 0, .int .i64 6] rfl (ResAll.cons (ResAt.blk (v := .agg #[.int .i64 0, .slice none (List.length ([] : List (UInt8))) 0]) (o := 0) (by kernel_rfl) st.head (by kernel_rfl)) (ResAll.cons (ResAt.tmp (by kernel_rfl)) (ResAll.cons (ResAt.tmp (by kernel_rfl)) ResAll.nil))) ?_
          have st := st.nilroom 5 1
          have st := st.front1
          have st := st.tail
          exact ⟨none, 0, m1, rfl, hm, st, (RepS.nil _ _)⟩
        · intro hc
          rw [if_neg (not_true hc)] at hr
          refine W_skip ?_
          refine X_then ?_
          refine W_seq ?_
          refine W_seq ?_
          refine W_region ?_
          refine WO_seg 5 [(35, .bool ((IntKind.wrap .i64 (p1 + 1)) == (List.length p0 : Int)))] (by kernel_rfl) (by kernel_rfl) ?_
          refine WO_end rfl ?_
          refine X_then ?_
          refine W_cond ((IntKind.wrap .i64 (p1 + 1)) == (List.length p0 : Int)) (by kernel_rfl) ?_ ?_
          · intro hc
            rw [if_pos hc] at hr
            refine W_seq ?_
            refine W_region ?_
            refine WO_one rfl (One_load_own (d := 36) (t := 54) (x := (.tmp 4)) (.agg #[.int .i64 0, .slice none (List.length ([] : List (UInt8))) 0]) (by kernel_rfl) rfl (show evL _ _ = some (.pointer (some ⟨b1, 0, none⟩)) from (by kernel_rfl)) st.head (by kernel_rfl) ?_)
            refine WO_one rfl (One_store (t := 54) (x := (.tmp 4)) (y := (.tmp 36)) (v := .agg #[.int .i64 0, .slice none (List.length ([] : List (UInt8))) 0]) (c' := #[.int .i64 0, .slice none (List.length ([] : List (UInt8))) 0]) (by kernel_rfl) (show evL _ _ = some (.pointer (some ⟨b1, 0, none⟩)) from (by kernel_rfl)) (show evL _ _ = some (.agg #[.int .i64 0, .slice none (List.length ([] : List (UInt8))) 0]) from (by kernel_rfl)) st (by kernel_rfl) (by kernel_rfl) ?_)
            clear st
            intro w6 st
            refine WO_seg 2 [(5, .int .i64 0), (6, .int .i64 7)] (by kernel_rfl) (by kernel_rfl) ?_
            refine WO_end rfl ?_
            refine X_then ?_
            refine W_ret ?_
            refine X_then_ret ?_
            obtain rfl := Option.some.inj hr
            refine X_ret [.cell 4 54, .tmp 5, .tmp 6] [.agg #[.int .i64 0, .slice none (List.length ([] : List (UInt8))) 0], .int .i64 0, .int .i64 7] rfl (ResAll.cons (ResAt.blk (v := .agg #[.int .i64 0, .slice none (List.length ([] : List (UInt8))) 0]) (o := 0) (by kernel_rfl) st.head (by kernel_rfl)) (ResAll.cons (ResAt.tmp (by kernel_rfl)) (ResAll.cons (ResAt.tmp (by kernel_rfl)) ResAll.nil))) ?_
            have st := st.nilroom 5 1
            have st := st.front1
            have st := st.tail
            exact ⟨none, 0, m1, rfl, hm, st, (RepS.nil _ _)⟩
          · intro hc
            rw [if_neg (not_true hc)] at hr
            refine W_skip ?_
            refine X_then ?_
            refine W_seq ?_
            refine W_seq ?_
            refine W_region ?_
            refine WO_seg 3 [(37, .slice a1 (List.length p0) c1), (39, .int .i64 (IntKind.wrap .i64 (p1 + 1)))] (by kernel_rfl) (by kernel_rfl) ?_
            replace hr := bindS hr
            obtain ⟨x2, hx2, hr⟩ := hr
            refine WO_one rfl (One_index (d := 40) (t := 50) (e := 5) (x := (.tmp 37)) (y := (.tmp 39)) cU8 (by kernel_rfl) rfl (show evL _ _ = some (.slice a1 (List.length p0) c1) from (by kernel_rfl)) (show evL _ _ = some (.int .i64 (IntKind.wrap .i64 (p1 + 1))) from (by kernel_rfl)) (by kernel_rfl) r1 hx2 ?_)
            rintro b3 f2 cs2 rfl hq2
            refine WO_one rfl (One_load_row (d := 41) (t := 5) (x := (.tmp 40)) (.int .u8 (x2.toNat : Int)) (by kernel_rfl) rfl (show evL _ _ = some (.pointer (some ⟨b3, f2, none⟩)) from (by kernel_rfl)) st hq2 (by kernel_rfl) ?_)
            refine WO_seg 1 [(42, .bool ((x2.toNat : Int) == 0))] (by kernel_rfl) (by kernel_rfl) ?_
            refine WO_end rfl ?_
            refine X_then ?_
            refine W_cond ((x2.toNat : Int) == 0) (by kernel_rfl) ?_ ?_
            · intro hc
              rw [if_pos hc] at hr
              refine W_seq ?_
              refine W_region ?_
              refine WO_one rfl (One_load_own (d := 43) (t := 54) (x := (.tmp 4)) (.agg #[.int .i64 0, .slice none (List.length ([] : List (UInt8))) 0]) (by kernel_rfl) rfl (show evL _ _ = some (.pointer (some ⟨b1, 0, none⟩)) from (by kernel_rfl)) st.head (by kernel_rfl) ?_)
              refine WO_one rfl (One_store (t := 54) (x := (.tmp 4)) (y := (.tmp 43)) (v := .agg #[.int .i64 0, .slice none (List.length ([] : List (UInt8))) 0]) (c' := #[.int .i64 0, .slice none (List.length ([] : List (UInt8))) 0]) (by kernel_rfl) (show evL _ _ = some (.pointer (some ⟨b1, 0, none⟩)) from (by kernel_rfl)) (show evL _ _ = some (.agg #[.int .i64 0, .slice none (List.length ([] : List (UInt8))) 0]) from (by kernel_rfl)) st (by kernel_rfl) (by kernel_rfl) ?_)
              clear st
              intro w7 st
              refine WO_seg 2 [(5, .int .i64 0), (6, .int .i64 6)] (by kernel_rfl) (by kernel_rfl) ?_
              refine WO_end rfl ?_
              refine X_then ?_
              refine W_ret ?_
              refine X_then_ret ?_
              obtain rfl := Option.some.inj hr
              refine X_ret [.cell 4 54, .tmp 5, .tmp 6] [.agg #[.int .i64 0, .slice none (List.length ([] : List (UInt8))) 0], .int .i64 0, .int .i64 6] rfl (ResAll.cons (ResAt.blk (v := .agg #[.int .i64 0, .slice none (List.length ([] : List (UInt8))) 0]) (o := 0) (by kernel_rfl) st.head (by kernel_rfl)) (ResAll.cons (ResAt.tmp (by kernel_rfl)) (ResAll.cons (ResAt.tmp (by kernel_rfl)) ResAll.nil))) ?_
              have st := st.nilroom 5 1
              have st := st.front1
              have st := st.tail
              exact ⟨none, 0, m1, rfl, hm, st, (RepS.nil _ _)⟩
            · intro hc
              rw [if_neg (not_true hc)] at hr
              refine W_skip ?_
              refine X_then ?_
              refine W_seq ?_
              refine W_region ?_
              refine WO_seg 3 [(45, .slice a1 (List.length p0) c1), (47, .int .i64 (IntKind.wrap .i64 (p1 + 2)))] (by kernel_rfl) (by kernel_rfl) ?_
              replace hr := bindS hr
              obtain ⟨y1, hx3, hr⟩ := hr
              refine WO_one rfl (One_fn 48 50 #[.slice a1 (List.length p0) c1, .int .i64 (IntKind.wrap .i64 (p1 + 2))] (by kernel_rfl) rfl ?_)
              refine (testgateref03_Uint_ok st r1 hx3).mono ?_
              clear st
              rintro _ w8 ⟨m2, rfl, hle1, st⟩
              refine ⟨_, rfl, ?_⟩
              have hm := Mem.le_trans hm hle1
              have r1 := r1.mono hle1
              refine WO_seg 7 [(7, .int .u64 y1.1), (8, .int .i64 y1.2.1), (6, .int .i64 y1.2.2)] (by kernel_rfl) (by kernel_rfl) ?_
              refine WO_end rfl ?_
              refine X_then ?_
              refine W_seq ?_
              refine W_seq ?_
              refine W_region ?_
              refine WO_seg 2 [(53, .bool (y1.2.2 != 0))] (by kernel_rfl) (by kernel_rfl) ?_
              refine WO_end rfl ?_
              refine X_then ?_
              refine W_cond (y1.2.2 != 0) (by kernel_rfl) ?_ ?_
              · intro hc
                rw [if_pos hc] at hr
                refine W_seq ?_
                refine W_region ?_
                refine WO_one rfl (One_load_own (d := 54) (t := 54) (x := (.tmp 4)) (.agg #[.int .i64 0, .slice none (List.length ([] : List (UInt8))) 0]) (by kernel_rfl) rfl (show evL _ _ = some (.pointer (some ⟨b1, 0, none⟩)) from (by kernel_rfl)) st.head (by kernel_rfl) ?_)
                refine WO_seg 1 [(55, .int .i64 y1.2.2)] (by kernel_rfl) (by kernel_rfl) ?_
                refine WO_one rfl (One_store (t := 54) (x := (.tmp 4)) (y := (.tmp 54)) (v := .agg #[.int .i64 0, .slice none (List.length ([] : List (UInt8))) 0]) (c' := #[.int .i64 0, .slice none (List.length ([] : List (UInt8))) 0]) (by kernel_rfl) (show evL _ _ = some (.pointer (some ⟨b1, 0, none⟩)) from (by kernel_rfl)) (show evL _ _ = some (.agg #[.int .i64 0, .slice none (List.length ([] : List (UInt8))) 0]) from (by kernel_rfl)) st (by kernel_rfl) (by kernel_rfl) ?_)
                clear st
                intro w9 st
                refine WO_seg 2 [(5, .int .i64 0), (6, .int .i64 y1.2.2)] (by kernel_rfl) (by kernel_rfl) ?_
                refine WO_end rfl ?_
                refine X_then ?_
                refine W_ret ?_
                refine X_then_ret ?_
                obtain rfl := Option.some.inj hr
                refine X_ret [.cell 4 54, .tmp 5, .tmp 6] [.agg #[.int .i64 0, .slice none (List.length ([] : List (UInt8))) 0], .int .i64 0, .int .i64 y1.2.2] rfl (ResAll.cons (ResAt.blk (v := .agg #[.int .i64 0, .slice none (List.length ([] : List (UInt8))) 0]) (o := 0) (by kernel_rfl) st.head (by kernel_rfl)) (ResAll.cons (ResAt.tmp (by kernel_rfl)) (ResAll.cons (ResAt.tmp (by kernel_rfl)) ResAll.nil))) ?_
                have st := st.nilroom 5 1
                have st := st.front1
                have st := st.tail
                exact ⟨none, 0, m2, rfl, hm, st, (RepS.nil _ _)⟩
              · intro hc
                rw [if_neg (not_true hc)] at hr
                refine W_skip ?_
                refine X_then ?_
                refine W_seq ?_
                refine W_seq ?_
                refine W_region ?_
                refine WO_seg 2 [(57, .bool (decide (y1.1 > 2097152)))] (by kernel_rfl) (by kernel_rfl) ?_
                refine WO_end rfl ?_
                refine X_then ?_
                refine W_cond (decide (y1.1 > 2097152)) (by kernel_rfl) ?_ ?_
                · intro hc
                  rw [if_pos hc] at hr
                  refine W_seq ?_
                  refine W_region ?_
                  refine WO_one rfl (One_load_own (d := 58) (t := 54) (x := (.tmp 4)) (.agg #[.int .i64 0, .slice none (List.length ([] : List (UInt8))) 0]) (by kernel_rfl) rfl (show evL _ _ = some (.pointer (some ⟨b1, 0, none⟩)) from (by kernel_rfl)) st.head (by kernel_rfl) ?_)
                  refine WO_one rfl (One_store (t := 54) (x := (.tmp 4)) (y := (.tmp 58)) (v := .agg #[.int .i64 0, .slice none (List.length ([] : List (UInt8))) 0]) (c' := #[.int .i64 0, .slice none (List.length ([] : List (UInt8))) 0]) (by kernel_rfl) (show evL _ _ = some (.pointer (some ⟨b1, 0, none⟩)) from (by kernel_rfl)) (show evL _ _ = some (.agg #[.int .i64 0, .slice none (List.length ([] : List (UInt8))) 0]) from (by kernel_rfl)) st (by kernel_rfl) (by kernel_rfl) ?_)
                  clear st
                  intro w10 st
                  refine WO_seg 2 [(5, .int .i64 0), (6, .int .i64 2)] (by kernel_rfl) (by kernel_rfl) ?_
                  refine WO_end rfl ?_
                  refine X_then ?_
                  refine W_ret ?_
                  refine X_then_ret ?_
                  obtain rfl := Option.some.inj hr
                  refine X_ret [.cell 4 54, .tmp 5, .tmp 6] [.agg #[.int .i64 0, .slice none (List.length ([] : List (UInt8))) 0], .int .i64 0, .int .i64 2] rfl (ResAll.cons (ResAt.blk (v := .agg #[.int .i64 0, .slice none (List.length ([] : List (UInt8))) 0]) (o := 0) (by kernel_rfl) st.head (by kernel_rfl)) (ResAll.cons (ResAt.tmp (by kernel_rfl)) (ResAll.cons (ResAt.tmp (by kernel_rfl)) ResAll.nil))) ?_
                  have st := st.nilroom 5 1
                  have st := st.front1
                  have st := st.tail
                  exact ⟨none, 0, m2, rfl, hm, st, (RepS.nil _ _)⟩
                · intro hc
                  rw [if_neg (not_true hc)] at hr
                  refine W_skip ?_
                  refine X_then ?_
                  refine W_seq ?_
                  refine W_seq ?_
                  refine W_region ?_
                  refine WO_seg 8 [(66, .bool (decide ((IntKind.wrap .i64 ((IntKind.wrap .i64 y1.1) + 4)) > (IntKind.wrap .i64 ((List.length p0 : Int) - y1.2.1)))))] (by kernel_rfl) (by kernel_rfl) ?_
                  refine WO_end rfl ?_
                  refine X_then ?_
                  refine W_cond (decide ((IntKind.wrap .i64 ((IntKind.wrap .i64 y1.1) + 4)) > (IntKind.wrap .i64 ((List.length p0 : Int) - y1.2.1)))) (by kernel_rfl) ?_ ?_
                  · intro hc
                    rw [if_pos hc] at hr
                    refine W_seq ?_
                    refine W_region ?_
                    refine WO_one rfl (One_load_own (d := 67) (t := 54) (x := (.tmp 4)) (.agg #[.int .i64 0, .slice none (List.length ([] : List (UInt8))) 0]) (by kernel_rfl) rfl (show evL _ _ = some (.pointer (some ⟨b1, 0, none⟩)) from (by kernel_rfl)) st.head (by kernel_rfl) ?_)
                    refine WO_one rfl (One_store (t := 54) (x := (.tmp 4)) (y := (.tmp 67)) (v := .agg #[.int .i64 0, .slice none (List.length ([] : List (UInt8))) 0]) (c' := #[.int .i64 0, .slice none (List.length ([] : List (UInt8))) 0]) (by kernel_rfl) (show evL _ _ = some (.pointer (some ⟨b1, 0, none⟩)) from (by kernel_rfl)) (show evL _ _ = some (.agg #[.int .i64 0, .slice none (List.length ([] : List (UInt8))) 0]) from (by kernel_rfl)) st (by kernel_rfl) (by kernel_rfl) ?_)
                    clear st
                    intro w11 st
                    refine WO_seg 2 [(5, .int .i64 0), (6, .int .i64 7)] (by kernel_rfl) (by kernel_rfl) ?_
                    refine WO_end rfl ?_
                    refine X_then ?_
                    refine W_ret ?_
                    refine X_then_ret ?_
                    obtain rfl := Option.some.inj hr
                    refine X_ret [.cell 4 54, .tmp 5, .tmp 6] [.agg #[.int .i64 0, .slice none (List.length ([] : List (UInt8))) 0], .int .i64 0, .int .i64 7] rfl (ResAll.cons (ResAt.blk (v := .agg #[.int .i64 0, .slice none (List.length ([] : List (UInt8))) 0]) (o := 0) (by kernel_rfl) st.head (by kernel_rfl)) (ResAll.cons (ResAt.tmp (by kernel_rfl)) (ResAll.cons (ResAt.tmp (by kernel_rfl)) ResAll.nil))) ?_
                    have st := st.nilroom 5 1
                    have st := st.front1
                    have st := st.tail
                    exact ⟨none, 0, m2, rfl, hm, st, (RepS.nil _ _)⟩
                  · intro hc
                    rw [if_neg (not_true hc)] at hr
                    refine W_skip ?_
                    refine X_then ?_
                    refine W_seq ?_
                    refine W_region ?_
                    refine WO_seg 5 [(9, .int .i64 (IntKind.wrap .i64 (y1.2.1 + (IntKind.wrap .i64 y1.1))))] (by kernel_rfl) (by kernel_rfl) ?_
                    refine WO_end rfl ?_
                    refine X_then ?_
                    refine W_seq ?_
                    refine W_region ?_
                    refine WO_seg 4 [(72, .slice a1 (List.length p0) c1), (74, .int .i64 (IntKind.wrap .i64 (p1 + 1))), (75, .int .i64 (IntKind.wrap .i64 (y1.2.1 + (IntKind.wrap .i64 y1.1))))] (by kernel_rfl) (by kernel_rfl) ?_
                    replace hr := bindS hr
                    obtain ⟨l1, hx4, hr⟩ := hr
                    refine WO_one rfl (One_slice (d := 76) (t := 50) (e := 5) (x := (.tmp 72)) (lo := (some (.tmp 74))) (hi := (some (.tmp 75))) cU8 (by kernel_rfl) rfl (show evL _ _ = some (.slice a1 (List.length p0) c1) from (by kernel_rfl)) (by kernel_rfl) r1 (.inr ⟨_, _, rfl, (show evL _ _ = some (.int .i64 (IntKind.wrap .i64 (p1 + 1))) from (by kernel_rfl))⟩) (.inr ⟨_, _, rfl, (show evL _ _ = some (.int .i64 (IntKind.wrap .i64 (y1.2.1 + (IntKind.wrap .i64 y1.1)))) from (by kernel_rfl))⟩) hx4 ?_)
                    intro a2 c2 r2
                    replace hr := bindS hr
                    obtain ⟨y2, hx5, hr⟩ := hr
                    refine WO_one rfl (One_fn 77 35 #[.slice a2 (List.length l1) c2] (by kernel_rfl) rfl ?_)
                    refine (testgateref03_Checksum_ok st r2 hx5).mono ?_
                    clear st
                    rintro _ w12 ⟨m3, rfl, hle2, st⟩
                    refine ⟨_, rfl, ?_⟩
                    have hm := Mem.le_trans hm hle2
                    have r1 := r1.mono hle2
                    have r2 := r2.mono hle2
                    refine WO_seg 1 [(10, .int .u32 y2)] (by kernel_rfl) (by kernel_rfl) ?_
                    refine WO_end rfl ?_
                    refine X_then ?_
                    refine W_seq ?_
                    refine W_seq ?_
                    refine W_region ?_
                    replace hr := bindS hr
                    obtain ⟨o2, hr, hrK⟩ := hr
                    refine WO_cut (j := 40) (fun L' w' => ∃ (m4 : Mem), L' = [(0, .slice a1 (List.length p0) c1), (1, .int .i64 p1), (4, .pointer (some ⟨b1, 0, none⟩)), (8, .int .i64 y1.2.1), (9, .int .i64 (IntKind.wrap .i64 (y1.2.1 + (IntKind.wrap .i64 y1.1)))), (117, .bool o2)] ∧ m.le m4 ∧ St m4 (.blk b1 (.cells #[.int .i64 0, .slice none (List.length ([] : List (UInt8))) 0] 54 (0, 0)) :: own) w' ∧ RepS cU8 m4 a1 c1 p0) ?_ ?_
                    · clear hr st
                      have hr := hrK
                      clear hrK
                      rintro _ w13 ⟨m4, rfl, hm, st, r1⟩
                      refine WO_end rfl ?_
                      refine X_then ?_
                      refine W_cond o2 (by kernel_rfl) ?_ ?_
                      · intro hc
                        rw [if_pos hc] at hr
                        refine W_seq ?_
                        refine W_region ?_
                        refine WO_one rfl (One_load_own (d := 118) (t := 54) (x := (.tmp 4)) (.agg #[.int .i64 0, .slice none (List.length ([] : List (UInt8))) 0]) (by kernel_rfl) rfl (show evL _ _ = some (.pointer (some ⟨b1, 0, none⟩)) from (by kernel_rfl)) st.head (by kernel_rfl) ?_)
                        refine WO_one rfl (One_store (t := 54) (x := (.tmp 4)) (y := (.tmp 118)) (v := .agg #[.int .i64 0, .slice none (List.length ([] : List (UInt8))) 0]) (c' := #[.int .i64 0, .slice none (List.length ([] : List (UInt8))) 0]) (by kernel_rfl) (show evL _ _ = some (.pointer (some ⟨b1, 0, none⟩)) from (by kernel_rfl)) (show evL _ _ = some (.agg #[.int .i64 0, .slice none (List.length ([] : List (UInt8))) 0]) from (by kernel_rfl)) st (by kernel_rfl) (by kernel_rfl) ?_)
                        clear st
                        intro w14 st
                        refine WO_seg 2 [(5, .int .i64 0), (6, .int .i64 8)] (by kernel_rfl) (by kernel_rfl) ?_
                        refine WO_end rfl ?_
                        refine X_then ?_
                        refine W_ret ?_
                        refine X_then_ret ?_
                        obtain rfl := Option.some.inj hr
                        refine X_ret [.cell 4 54, .tmp 5, .tmp 6] [.agg #[.int .i64 0, .slice none (List.length ([] : List (UInt8))) 0], .int .i64 0, .int .i64 8] rfl (ResAll.cons (ResAt.blk (v := .agg #[.int .i64 0, .slice none (List.length ([] : List (UInt8))) 0]) (o := 0) (by kernel_rfl) st.head (by kernel_rfl)) (ResAll.cons (ResAt.tmp (by kernel_rfl)) (ResAll.cons (ResAt.tmp (by kernel_rfl)) ResAll.nil))) ?_
                        have st := st.nilroom 5 1
                        have st := st.front1
                        have st := st.tail
                        exact ⟨none, 0, m4, rfl, hm, st, (RepS.nil _ _)⟩
                      · intro hc
                        rw [if_neg (not_true hc)] at hr
                        refine W_skip ?_
                        refine X_then ?_
                        refine W_seq ?_
                        refine W_draw [(17, fun w' => Inv m4 w' ∧ True)] (by kernel_rfl) st ?_
                        clear st
                        intro w15 _ st
                        have hmS := m4.le_refl
                        refine ⟨⟨.inr ⟨Inv.anti st.inv hmS, trivial⟩, trivial⟩, ?_⟩
                        refine WA_pure 0 119 (.slice a1 (List.length p0) c1) (by kernel_rfl) rfl (by kernel_rfl) (.head _) (QP_then QP_body) ?_
                        refine WA_pure 1 120 (.int .i64 p1) (by kernel_rfl) rfl (by kernel_rfl) (.head _) (QP_then QP_body) ?_
                        refine WA_pure 2 121 (.int .i64 (IntKind.wrap .i64 (p1 + 1))) (by kernel_rfl) rfl (by kernel_rfl) (.head _) (QP_then QP_body) ?_
                        replace hr := bindS hr
                        obtain ⟨x7, hx10, hr⟩ := hr
                        refine WA_index (t := 50) (e := 5) (x := (.tmp 119)) (y := (.tmp 121)) 3 122 cU8 (by kernel_rfl) rfl (by kernel_rfl) (.head _) (QP_then QP_body) (show evL _ _ = some (.slice a1 (List.length p0) c1) from (by kernel_rfl)) (show evL _ _ = some (.int .i64 (IntKind.wrap .i64 (p1 + 1))) from (by kernel_rfl)) (by kernel_rfl) r1 hx10 ?_
                        rintro b8 f7 cs7 rfl hq7
                        refine WA_load_row (t := 5) (x := (.tmp 122)) 4 123 (.int .u8 (x7.toNat : Int)) (by kernel_rfl) rfl (by kernel_rfl) (.head _) (QP_then QP_body) (fun _ h => h.1) (show evL _ _ = some (.pointer (some ⟨b8, f7, none⟩)) from (by kernel_rfl)) hq7 (by kernel_rfl) ?_
                        refine WA_pure 5 124 (.int .i64 (IntKind.wrap .i64 (x7.toNat : Int))) (by kernel_rfl) rfl (by kernel_rfl) (.head _) (QP_then QP_body) ?_
                        refine WA_pure 6 125 (.slice a1 (List.length p0) c1) (by kernel_rfl) rfl (by kernel_rfl) (.head _) (QP_then QP_body) ?_
                        refine WA_pure 7 126 (.int .i64 y1.2.1) (by kernel_rfl) rfl (by kernel_rfl) (.head _) (QP_then QP_body) ?_
                        refine WA_pure 8 127 (.int .i64 (IntKind.wrap .i64 (y1.2.1 + (IntKind.wrap .i64 y1.1)))) (by kernel_rfl) rfl (by kernel_rfl) (.head _) (QP_then QP_body) ?_
                        replace hr := bindS hr
                        obtain ⟨l2, hx11, hr⟩ := hr
                        refine WA_slice (t := 50) (e := 5) (x := (.tmp 125)) (lo := (some (.tmp 126))) (hi := (some (.tmp 127))) 9 128 cU8 (by kernel_rfl) rfl (by kernel_rfl) (.head _) (QP_then QP_body) (show evL _ _ = some (.slice a1 (List.length p0) c1) from (by kernel_rfl)) (by kernel_rfl) r1 (.inr ⟨_, _, rfl, (show evL _ _ = some (.int .i64 y1.2.1) from (by kernel_rfl))⟩) (.inr ⟨_, _, rfl, (show evL _ _ = some (.int .i64 (IntKind.wrap .i64 (y1.2.1 + (IntKind.wrap .i64 y1.1)))) from (by kernel_rfl))⟩) hx11 ?_
                        intro a3 c3 r3
                        refine WA_pure 12 131 (.int .i64 (IntKind.wrap .i64 (y1.2.1 + (IntKind.wrap .i64 y1.1)))) (by kernel_rfl) rfl (by kernel_rfl) (.head _) (QP_then QP_body) ?_
                        refine WA_pure 13 132 (.int .i64 (IntKind.wrap .i64 ((IntKind.wrap .i64 (y1.2.1 + (IntKind.wrap .i64 y1.1))) + 4))) (by kernel_rfl) rfl (by kernel_rfl) (.head _) (QP_then QP_body) ?_
                        have st := st.nilroom 5 1
                        replace hr := bindS hr
                        obtain ⟨l3, hx12, hr⟩ := hr
                        refine WA_one 10 (by kernel_rfl) (One_append (d := 129) (t := 50) (u := 50) (e := 5) (by_ := 1) (x := (.const (.slice none 0 0))) (y := (.tmp 128)) cU8 (by kernel_rfl) rfl (show evL _ _ = some (.slice none (List.length ([] : List (UInt8))) 0) from (by kernel_rfl)) (show evL _ _ = some (.slice a3 (List.length l2) c3) from (by kernel_rfl)) st (by kernel_rfl) (.inl (by kernel_rfl)) (RepS.nil _ _) r3.src hx12 ?_)
                        clear st
                        intro a4 c4 m5 w16 hle3 st r4
                        have hm := Mem.le_trans hm hle3
                        have r1 := r1.mono hle3
                        have hq7 := hq7.mono hle3
                        have r3 := r3.mono hle3
                        have hmS := Mem.le_trans hmS hle3
                        refine ⟨⟨.inr ⟨Inv.anti st.inv hmS, trivial⟩, trivial⟩, ?_⟩
                        refine WA_pure 11 130 (.agg #[.int .i64 (IntKind.wrap .i64 (x7.toNat : Int)), .slice a4 (List.length l3) c4]) (by kernel_rfl) rfl (by kernel_rfl) (.head _) (QP_then QP_body) ?_
                        have st := st.front1
                        refine WA_one 14 (by kernel_rfl) (One_store (t := 54) (x := (.tmp 4)) (y := (.tmp 130)) (v := .agg #[.int .i64 (IntKind.wrap .i64 (x7.toNat : Int)), .slice a4 (List.length l3) c4]) (c' := #[.int .i64 (IntKind.wrap .i64 (x7.toNat : Int)), .slice a4 (List.length l3) c4]) (by kernel_rfl) (show evL _ _ = some (.pointer (some ⟨b1, 0, none⟩)) from (by kernel_rfl)) (show evL _ _ = some (.agg #[.int .i64 (IntKind.wrap .i64 (x7.toNat : Int)), .slice a4 (List.length l3) c4]) from (by kernel_rfl)) st (by kernel_rfl) (by kernel_rfl) ?_)
                        clear st
                        intro w17 st
                        refine ⟨⟨.inr ⟨Inv.anti st.inv hmS, trivial⟩, trivial⟩, ?_⟩
                        refine WA_pure 15 5 (.int .i64 (IntKind.wrap .i64 ((IntKind.wrap .i64 (y1.2.1 + (IntKind.wrap .i64 y1.1))) + 4))) (by kernel_rfl) rfl (by kernel_rfl) (.head _) (QP_then QP_body) ?_
                        refine WA_pure 16 6 (.int .i64 0) (by kernel_rfl) rfl (by kernel_rfl) (.head _) (QP_then QP_body) ?_
                        refine WA_done (by kernel_rfl) ?_
                        refine X_then ?_
                        refine W_ret ?_
                        obtain rfl := Option.some.inj hr
                        refine X_ret [.cell 4 54, .tmp 5, .tmp 6] [.agg #[.int .i64 (IntKind.wrap .i64 (x7.toNat : Int)), .slice a4 (List.length l3) c4], .int .i64 (IntKind.wrap .i64 ((IntKind.wrap .i64 (y1.2.1 + (IntKind.wrap .i64 y1.1))) + 4)), .int .i64 0] rfl (ResAll.cons (ResAt.blk (v := .agg #[.int .i64 (IntKind.wrap .i64 (x7.toNat : Int)), .slice a4 (List.length l3) c4]) (o := 0) (by kernel_rfl) st.head (by kernel_rfl)) (ResAll.cons (ResAt.tmp (by kernel_rfl)) (ResAll.cons (ResAt.tmp (by kernel_rfl)) ResAll.nil))) ?_
                        have st := st.tail
                        exact ⟨a4, c4, m5, rfl, hm, st, r4⟩
                    · intro K
                      clear hrK
                      refine WO_seg 2 [(78, .slice a1 (List.length p0) c1), (79, .int .i64 (IntKind.wrap .i64 (y1.2.1 + (IntKind.wrap .i64 y1.1))))] (by kernel_rfl) (by kernel_rfl) ?_
                      replace hr := bindS hr
                      obtain ⟨x3, hx6, hr⟩ := hr
                      refine WO_one rfl (One_index (d := 80) (t := 50) (e := 5) (x := (.tmp 78)) (y := (.tmp 79)) cU8 (by kernel_rfl) rfl (show evL _ _ = some (.slice a1 (List.length p0) c1) from (by kernel_rfl)) (show evL _ _ = some (.int .i64 (IntKind.wrap .i64 (y1.2.1 + (IntKind.wrap .i64 y1.1)))) from (by kernel_rfl)) (by kernel_rfl) r1 hx6 ?_)
                      rintro b4 f3 cs3 rfl hq3
                      refine WO_one rfl (One_load_row (d := 81) (t := 5) (x := (.tmp 80)) (.int .u8 (x3.toNat : Int)) (by kernel_rfl) rfl (show evL _ _ = some (.pointer (some ⟨b4, f3, none⟩)) from (by kernel_rfl)) st hq3 (by kernel_rfl) ?_)
                      refine WO_seg 4 [(85, .bool ((x3.toNat : Int) != (IntKind.wrap .u8 y2)))] (by kernel_rfl) (by kernel_rfl) ?_
                      rcases bcases ((x3.toNat : Int) != (IntKind.wrap .u8 y2)) with hc | hc
                      · rw [if_pos hc] at hr
                        refine WO_fact (t := 85) (b := true) ((x3.toNat : Int) != (IntKind.wrap .u8 y2)) (by kernel_rfl) hc ?_
                        refine WO_seg 32 [(117, .bool true)] (by kernel_rfl) (by kernel_rfl) ?_
                        obtain rfl := Option.some.inj hr
                        exact WO_env _ (by kernel_rfl) (K _ _ ⟨m3, rfl, hm, st, r1⟩)
                      · rw [if_neg (not_true hc)] at hr
                        refine WO_fact (t := 85) (b := false) ((x3.toNat : Int) != (IntKind.wrap .u8 y2)) (by kernel_rfl) hc ?_
                        refine WO_seg 3 [(86, .slice a1 (List.length p0) c1), (88, .int .i64 (IntKind.wrap .i64 ((IntKind.wrap .i64 (y1.2.1 + (IntKind.wrap .i64 y1.1))) + 1)))] (by kernel_rfl) (by kernel_rfl) ?_
                        replace hr := bindS hr
                        obtain ⟨x4, hx7, hr⟩ := hr
                        refine WO_one rfl (One_index (d := 89) (t := 50) (e := 5) (x := (.tmp 86)) (y := (.tmp 88)) cU8 (by kernel_rfl) rfl (show evL _ _ = some (.slice a1 (List.length p0) c1) from (by kernel_rfl)) (show evL _ _ = some (.int .i64 (IntKind.wrap .i64 ((IntKind.wrap .i64 (y1.2.1 + (IntKind.wrap .i64 y1.1))) + 1))) from (by kernel_rfl)) (by kernel_rfl) r1 hx7 ?_)
                        rintro b5 f4 cs4 rfl hq4
                        refine WO_one rfl (One_load_row (d := 90) (t := 5) (x := (.tmp 89)) (.int .u8 (x4.toNat : Int)) (by kernel_rfl) rfl (show evL _ _ = some (.pointer (some ⟨b5, f4, none⟩)) from (by kernel_rfl)) st hq4 (by kernel_rfl) ?_)
                        refine WO_seg 6 [(96, .bool ((x4.toNat : Int) != (IntKind.wrap .u8 (Int.fdiv y2 (2 ^ 8)))))] (by kernel_rfl) (by kernel_rfl) ?_
                        rcases bcases ((x4.toNat : Int) != (IntKind.wrap .u8 (Int.fdiv y2 (2 ^ 8)))) with hc | hc
                        · rw [if_pos hc] at hr
                          refine WO_fact (t := 96) (b := true) ((x4.toNat : Int) != (IntKind.wrap .u8 (Int.fdiv y2 (2 ^ 8)))) (by kernel_rfl) hc ?_
                          refine WO_seg 21 [(117, .bool true)] (by kernel_rfl) (by kernel_rfl) ?_
                          obtain rfl := Option.some.inj hr
                          exact WO_env _ (by kernel_rfl) (K _ _ ⟨m3, rfl, hm, st, r1⟩)
                        · rw [if_neg (not_true hc)] at hr
                          refine WO_fact (t := 96) (b := false) ((x4.toNat : Int) != (IntKind.wrap .u8 (Int.fdiv y2 (2 ^ 8)))) (by kernel_rfl) hc ?_
                          refine WO_seg 3 [(97, .slice a1 (List.length p0) c1), (99, .int .i64 (IntKind.wrap .i64 ((IntKind.wrap .i64 (y1.2.1 + (IntKind.wrap .i64 y1.1))) + 2)))] (by kernel_rfl) (by kernel_rfl) ?_
                          replace hr := bindS hr
                          obtain ⟨x5, hx8, hr⟩ := hr
                          refine WO_one rfl (One_index (d := 100) (t := 50) (e := 5) (x := (.tmp 97)) (y := (.tmp 99)) cU8 (by kernel_rfl) rfl (show evL _ _ = some (.slice a1 (List.length p0) c1) from (by kernel_rfl)) (show evL _ _ = some (.int .i64 (IntKind.wrap .i64 ((IntKind.wrap .i64 (y1.2.1 + (IntKind.wrap .i64 y1.1))) + 2))) from (by kernel_rfl)) (by kernel_rfl) r1 hx8 ?_)
                          rintro b6 f5 cs5 rfl hq5
                          refine WO_one rfl (One_load_row (d := 101) (t := 5) (x := (.tmp 100)) (.int .u8 (x5.toNat : Int)) (by kernel_rfl) rfl (show evL _ _ = some (.pointer (some ⟨b6, f5, none⟩)) from (by kernel_rfl)) st hq5 (by kernel_rfl) ?_)
                          refine WO_seg 6 [(107, .bool ((x5.toNat : Int) != (IntKind.wrap .u8 (Int.fdiv y2 (2 ^ 16)))))] (by kernel_rfl) (by kernel_rfl) ?_
                          rcases bcases ((x5.toNat : Int) != (IntKind.wrap .u8 (Int.fdiv y2 (2 ^ 16)))) with hc | hc
                          · rw [if_pos hc] at hr
                            refine WO_fact (t := 107) (b := true) ((x5.toNat : Int) != (IntKind.wrap .u8 (Int.fdiv y2 (2 ^ 16)))) (by kernel_rfl) hc ?_
                            refine WO_seg 10 [(117, .bool true)] (by kernel_rfl) (by kernel_rfl) ?_
                            obtain rfl := Option.some.inj hr
                            exact WO_env _ (by kernel_rfl) (K _ _ ⟨m3, rfl, hm, st, r1⟩)
                          · rw [if_neg (not_true hc)] at hr
                            refine WO_fact (t := 107) (b := false) ((x5.toNat : Int) != (IntKind.wrap .u8 (Int.fdiv y2 (2 ^ 16)))) (by kernel_rfl) hc ?_
                            refine WO_seg 3 [(108, .slice a1 (List.length p0) c1), (110, .int .i64 (IntKind.wrap .i64 ((IntKind.wrap .i64 (y1.2.1 + (IntKind.wrap .i64 y1.1))) + 3)))] (by kernel_rfl) (by kernel_rfl) ?_
                            replace hr := bindS hr
                            obtain ⟨x6, hx9, hr⟩ := hr
                            refine WO_one rfl (One_index (d := 111) (t := 50) (e := 5) (x := (.tmp 108)) (y := (.tmp 110)) cU8 (by kernel_rfl) rfl (show evL _ _ = some (.slice a1 (List.length p0) c1) from (by kernel_rfl)) (show evL _ _ = some (.int .i64 (IntKind.wrap .i64 ((IntKind.wrap .i64 (y1.2.1 + (IntKind.wrap .i64 y1.1))) + 3))) from (by kernel_rfl)) (by kernel_rfl) r1 hx9 ?_)
                            rintro b7 f6 cs6 rfl hq6
                            refine WO_one rfl (One_load_row (d := 112) (t := 5) (x := (.tmp 111)) (.int .u8 (x6.toNat : Int)) (by kernel_rfl) rfl (show evL _ _ = some (.pointer (some ⟨b7, f6, none⟩)) from (by kernel_rfl)) st hq6 (by kernel_rfl) ?_)
                            refine WO_seg 5 [(117, .bool ((x6.toNat : Int) != (IntKind.wrap .u8 (Int.fdiv y2 (2 ^ 24)))))] (by kernel_rfl) (by kernel_rfl) ?_
                            obtain rfl := Option.some.inj hr
                            exact WO_env _ (by kernel_rfl) (K _ _ ⟨m3, rfl, hm, st, r1⟩)
  · intro K
    clear hrK
    refine WO_seg 3 [(13, .bool (decide (p1 < 0)))] (by kernel_rfl) (by kernel_rfl) ?_
    rcases bcases (decide (p1 < 0)) with hc | hc
    · rw [if_pos hc] at hr
      refine WO_fact (t := 13) (b := true) (decide (p1 < 0)) (by kernel_rfl) hc ?_
      refine WO_seg 5 [(18, .bool true)] (by kernel_rfl) (by kernel_rfl) ?_
      obtain rfl := Option.some.inj hr
      exact WO_env _ (by kernel_rfl) (K _ _ ⟨m, rfl, hm, st, r1⟩)
    · rw [if_neg (not_true hc)] at hr
      refine WO_fact (t := 13) (b := false) (decide (p1 < 0)) (by kernel_rfl) hc ?_
      refine WO_seg 5 [(18, .bool (decide (p1 > (List.length p0 : Int))))] (by kernel_rfl) (by kernel_rfl) ?_
      obtain rfl := Option.some.inj hr
      exact WO_env _ (by kernel_rfl) (K _ _ ⟨m, rfl, hm, st, r1⟩)

def testgateref03_Frames_L1 (N : Nat) (p0 : List UInt8) (s1 : (List (Int × List UInt8)) × Int) : Option (((List (Int × List UInt8)) × Int) ⊕ (((List (Int × List UInt8)) × Int) ⊕ ((List (Int × List UInt8)) × Int × Int))) :=
  if (decide (s1.2 < (List.length p0 : Int))) = true then ((testgateref03_Next N p0 s1.2).bind fun y1 => if (y1.2.2 != 0) = true then (some (.inr (.inr ((s1.1, s1.2, y1.2.2))))) else ((appendS 32 s1.1 ([(y1.1.1, y1.1.2)])).bind fun l1 => some (.inl (l1, y1.2.1)))) else (some (.inr (.inl (s1.1, s1.2))))

def testgateref03_Frames (N : Nat) (p0 : List UInt8) : Option ((List (Int × List UInt8)) × Int × Int) :=
  (loopM (testgateref03_Frames_L1 N p0) N (([] : List (Int × List UInt8)), 0)).bind fun out1 => (match out1 with | .inl o1 => some (o1.1, o1.2, 0) | .inr (z) => some z)

set_option maxHeartbeats 4000000 in
set_option maxRecDepth 100000 in
theorem testgateref03_Frames_ok {N : Nat} {m : Mem} {own : List Piece} {w : World} {p0 : List UInt8} {a1 : Option Addr} {c1 : Nat} {r : (List (Int × List UInt8)) × Int × Int} (st : St m (own) w) (r1 : RepS cU8 m a1 c1 p0) (hr : testgateref03_Frames N p0 = some r) : Calls Go.Proofs.Try.prog 40 #[.slice a1 (List.length p0) c1] w fun e w' => ∃ (ra1 : Option Addr) (rc1 : Nat) (m' : Mem), e = .returned (.tuple #[.slice ra1 (List.length r.1) rc1, .int .i64 r.2.1, .int .i64 r.2.2]) ∧ m.le m' ∧ St m' (.room ra1 (List.length r.1) rc1 54 2 :: own) w' ∧ RepS (cPair (cInt .i64) (cSl cU8)) m' ra1 rc1 r.1 := by
  unfold testgateref03_Frames at hr
  have hm := m.le_refl
  refine W_calls Go.Proofs.Try.func40 rfl Go.Proofs.Try.ntmps40 [(0, .slice a1 (List.length p0) c1)] (by kernel_rfl) rfl ?_
  refine W_seq ?_
  refine W_region ?_
  refine WO_seg 3 [(2, .slice none (List.length ([] : List (Int × List UInt8))) 0), (3, .int .i64 0)] (by kernel_rfl) (by kernel_rfl) ?_
  refine WO_end rfl ?_
  refine X_then ?_
  refine W_seq ?_
  refine W_block ?_
  replace hr := bindS hr
  obtain ⟨out1, hr, hrKu1⟩ := hr
  refine W_cut (.exit 0) (fun L' w' => ∃ (o1 : (List (Int × List UInt8)) × Int) (a2 : Option Addr) (c2 : Nat) (m1 : Mem), (.inl o1) = out1 ∧ L' = [(2, .slice a2 (List.length o1.1) c2), (3, .int .i64 o1.2)] ∧ m.le m1 ∧ St m1 (.room a2 (List.length o1.1) c2 54 2 :: own) w' ∧ RepS (cPair (cInt .i64) (cSl cU8)) m1 a2 c2 o1.1) ?_ ?_
  · clear hr st
    rintro _ w1 ⟨o1, a2, c2, m1, rfl, rfl, hm, st, r2⟩
    have hr := hrKu1
    clear hrKu1
    dsimp only at hr
    refine X_block_eq ?_
    refine X_then ?_
    refine W_seq ?_
    refine W_region ?_
    refine WO_seg 5 [(2, .slice a2 (List.length o1.1) c2), (3, .int .i64 o1.2), (4, .int .i64 0)] (by kernel_rfl) (by kernel_rfl) ?_
    refine WO_end rfl ?_
    refine X_then ?_
    refine W_ret ?_
    obtain rfl := Option.some.inj hr
    refine X_ret [.tmp 2, .tmp 3, .tmp 4] [.slice a2 (List.length o1.1) c2, .int .i64 o1.2, .int .i64 0] rfl (ResAll.cons (ResAt.tmp (by kernel_rfl)) (ResAll.cons (ResAt.tmp (by kernel_rfl)) (ResAll.cons (ResAt.tmp (by kernel_rfl)) ResAll.nil))) ?_
    exact ⟨a2, c2, m1, rfl, hm, st, r2⟩
  intro K0_u1
  have st := st.nilroom 54 2
  refine W_env _ (by kernel_rfl) (W_loop (fun k1 L' w' => ∃ (s1 : (List (Int × List UInt8)) × Int) (a3 : Option Addr) (c3 : Nat) (m2 : Mem), loopM (testgateref03_Frames_L1 N p0) k1 s1 = some out1 ∧ L' = [(0, .slice a1 (List.length p0) c1), (2, .slice a3 (List.length s1.1) c3), (3, .int .i64 s1.2)] ∧ m.le m2 ∧ St m2 (.room a3 (List.length s1.1) c3 54 2 :: own) w' ∧ RepS cU8 m2 a1 c1 p0 ∧ RepS (cPair (cInt .i64) (cSl cU8)) m2 a3 c3 s1.1) N ⟨(([] : List (Int × List UInt8)), 0), none, 0, m, hr, rfl, hm, st, r1, (RepS.nil _ _)⟩ ?_)
  clear st hr
  rintro k1 _ w2 ⟨s1, a3, c3, m2, hL, rfl, hm, st, r1, r3⟩
  rcases k1 with _ | k1
  · exact loopM_zero hL
  · obtain ⟨qu1, hr, hSu1, hBu1⟩ := loopM_succ hL
    clear hL
    unfold testgateref03_Frames_L1 at hr
    refine W_seq ?_
    refine W_seq ?_
    refine W_region ?_
    refine WO_seg 4 [(11, .bool (decide (s1.2 < (List.length p0 : Int))))] (by kernel_rfl) (by kernel_rfl) ?_
    refine WO_end rfl ?_
    refine X_then ?_
    refine W_cond (decide (s1.2 < (List.length p0 : Int))) (by kernel_rfl) ?_ ?_
    · intro hc
      rw [if_pos hc] at hr
      refine W_skip ?_
      refine X_then ?_
      refine W_block ?_
      refine W_seq ?_
      refine W_region ?_
      refine WO_seg 2 [(13, .slice a1 (List.length p0) c1), (14, .int .i64 s1.2)] (by kernel_rfl) (by kernel_rfl) ?_
      replace hr := bindS hr
      obtain ⟨y1, hx1, hr⟩ := hr
      refine WO_one rfl (One_fn 15 37 #[.slice a1 (List.length p0) c1, .int .i64 s1.2] (by kernel_rfl) rfl ?_)
      refine (testgateref03_Next_ok st r1 hx1).mono ?_
      clear st
      rintro _ w3 ⟨a4, c4, m3, rfl, hle1, st, r4⟩
      refine ⟨_, rfl, ?_⟩
      have hm := Mem.le_trans hm hle1
      have r1 := r1.mono hle1
      have r3 := r3.mono hle1
      refine WO_seg 4 [(16, .agg #[.int .i64 y1.1.1, .slice a4 (List.length y1.1.2) c4]), (17, .int .i64 y1.2.1), (18, .int .i64 y1.2.2)] (by kernel_rfl) (by kernel_rfl) ?_
      refine WO_one rfl (One_alloc (d := 5) (e := 54) (.agg #[.int .i64 0, .slice none 0 0]) (by kernel_rfl) rfl (by kernel_rfl) st ?_)
      clear st
      intro b1 w4 st
      refine WO_one rfl (One_store (t := 54) (x := (.tmp 5)) (y := (.tmp 16)) (v := .agg #[.int .i64 y1.1.1, .slice a4 (List.length y1.1.2) c4]) (c' := #[.int .i64 y1.1.1, .slice a4 (List.length y1.1.2) c4]) (by kernel_rfl) (show evL _ _ = some (.pointer (some ⟨b1, 0, none⟩)) from (by kernel_rfl)) (show evL _ _ = some (.agg #[.int .i64 y1.1.1, .slice a4 (List.length y1.1.2) c4]) from (by kernel_rfl)) st (by kernel_rfl) (by kernel_rfl) ?_)
      clear st
      intro w5 st
      refine WO_seg 2 [(6, .int .i64 y1.2.1), (7, .int .i64 y1.2.2)] (by kernel_rfl) (by kernel_rfl) ?_
      refine WO_end rfl ?_
      refine X_then ?_
      refine W_seq ?_
      refine W_seq ?_
      refine W_region ?_
      refine WO_seg 2 [(20, .bool (y1.2.2 != 0))] (by kernel_rfl) (by kernel_rfl) ?_
      refine WO_end rfl ?_
      refine X_then ?_
      refine W_cond (y1.2.2 != 0) (by kernel_rfl) ?_ ?_
      · intro hc
        rw [if_pos hc] at hr
        refine W_seq ?_
        refine W_region ?_
        refine WO_seg 6 [(2, .slice a3 (List.length s1.1) c3), (3, .int .i64 s1.2), (4, .int .i64 y1.2.2)] (by kernel_rfl) (by kernel_rfl) ?_
        refine WO_end rfl ?_
        refine X_then ?_
        refine W_ret ?_
        refine X_then_ret ?_
        refine X_block_ret ?_
        obtain rfl := Option.some.inj hr
        have ho := hBu1 _ rfl
        subst ho
        have hr := hrKu1
        dsimp only at hr
        refine X_then_ret ?_
        refine X_block_ret ?_
        refine X_then_ret ?_
        obtain rfl := Option.some.inj hr
        refine X_ret [.tmp 2, .tmp 3, .tmp 4] [.slice a3 (List.length s1.1) c3, .int .i64 s1.2, .int .i64 y1.2.2] rfl (ResAll.cons (ResAt.tmp (by kernel_rfl)) (ResAll.cons (ResAt.tmp (by kernel_rfl)) (ResAll.cons (ResAt.tmp (by kernel_rfl)) ResAll.nil))) ?_
        have st := st.tail
        have st := st.tail
        exact ⟨a3, c3, m3, rfl, hm, st, r3⟩
      · intro hc
        rw [if_neg (not_true hc)] at hr
        refine W_skip ?_
        refine X_then ?_
        refine W_seq ?_
        refine W_region ?_
        refine WO_seg 1 [(24, .slice a3 (List.length s1.1) c3)] (by kernel_rfl) (by kernel_rfl) ?_
        refine WO_one rfl (One_load_own (d := 25) (t := 54) (x := (.tmp 5)) (.agg #[.int .i64 y1.1.1, .slice a4 (List.length y1.1.2) c4]) (by kernel_rfl) rfl (show evL _ _ = some (.pointer (some ⟨b1, 0, none⟩)) from (by kernel_rfl)) st.head (by kernel_rfl) ?_)
        refine WO_one rfl (One_buildSlice (d := 26) (t := 62) (e := 54) (len := 1) (parts := #[(0, (.tmp 25))]) (cPair (cInt .i64) (cSl cU8)) (xs := [(y1.1.1, y1.1.2)]) [.int .i64 y1.1.1, .slice a4 (List.length y1.1.2) c4] (by kernel_rfl) rfl (fun _ => buildCells_run (by kernel_rfl) _) rfl rfl st ⟨[.int .i64 y1.1.1, .slice a4 (List.length y1.1.2) c4], _, rfl, ⟨_, _, rfl, rfl, (cSl_mk r4)⟩, rfl⟩ ?_)
        clear st
        intro b2 m4 w6 hle2 st r5
        have hm := Mem.le_trans hm hle2
        have r1 := r1.mono hle2
        have r3 := r3.mono hle2
        have r4 := r4.mono hle2
        have st := st.front3
        replace hr := bindS hr
        obtain ⟨l1, hx2, hr⟩ := hr
        refine WO_one rfl (One_append (d := 27) (t := 62) (u := 62) (e := 54) (by_ := 32) (x := (.tmp 24)) (y := (.tmp 26)) (cPair (cInt .i64) (cSl cU8)) (by kernel_rfl) rfl (show evL _ _ = some (.slice a3 (List.length s1.1) c3) from (by kernel_rfl)) (show evL _ _ = some (.slice (some ⟨b2, 0, none⟩) (List.length ([(y1.1.1, y1.1.2)])) 1) from (by kernel_rfl)) st (by kernel_rfl) (.inl (by kernel_rfl)) r3 r5.src hx2 ?_)
        clear st
        intro a5 c5 m5 w7 hle3 st r6
        have hm := Mem.le_trans hm hle3
        have r1 := r1.mono hle3
        have r3 := r3.mono hle3
        have r4 := r4.mono hle3
        have r5 := r5.mono hle3
        refine WO_seg 1 [(2, .slice a5 (List.length l1) c5)] (by kernel_rfl) (by kernel_rfl) ?_
        refine WO_end rfl ?_
        have st := st.front1
        have st := st.tail
        refine X_then ?_
        refine W_region ?_
        refine WO_seg 2 [(3, .int .i64 y1.2.1)] (by kernel_rfl) (by kernel_rfl) ?_
        refine WO_end rfl ?_
        refine X_block ?_
        obtain rfl := Option.some.inj hr
        have hL := hSu1 _ rfl
        have st := st.front1
        have st := st.tail
        have st := st.front1
        have st := st.tail
        exact X_env _ (by kernel_rfl) (X_round k1 (Nat.lt_succ_self _) ⟨(l1, y1.2.1), a5, c5, m5, hL, rfl, hm, st, r1, r6⟩)
    · intro hc
      rw [if_neg (not_true hc)] at hr
      refine W_exit ?_
      refine X_then_exit ?_
      obtain rfl := Option.some.inj hr
      have ho := hBu1 _ rfl
      refine X_then_exit ?_
      exact X_env _ (by kernel_rfl) (K0_u1 _ _ ⟨(s1.1, s1.2), a3, c3, m2, ho, rfl, hm, st, r3⟩)

def testgateref13_Decode_L1 (N : Nat) (y1 : (List (Int × List UInt8)) × Int × Int) (s1 : Int × List (ByteArray)) : Option ((Int × List (ByteArray)) ⊕ ((List (ByteArray)) ⊕ (List ByteArray × Int))) :=
  if (decide (s1.1 < (List.length y1.1 : Int))) = true then ((idx y1.1 s1.1).bind fun x1 => if (x1.1 != 3) = true then (some (.inr (.inr ((([] : List (ByteArray)), 6))))) else ((appendS 16 s1.2 ([strOf x1.2])).bind fun l1 => some (.inl (IntKind.wrap .i64 (s1.1 + 1), l1)))) else (some (.inr (.inl s1.2)))

def testgateref13_Decode (N : Nat) (p0 : List UInt8) : Option (List ByteArray × Int) :=
  (testgateref03_Frames N p0).bind fun y1 => if (y1.2.2 != 0) = true then (some (([] : List (ByteArray)), y1.2.2)) else ((loopM (testgateref13_Decode_L1 N y1) N (0, ([] : List (ByteArray)))).bind fun out1 => (match out1 with | .inl o1 => (testgateref13_Check N o1).bind fun y2 => if (y2 != 0) = true then (some (([] : List (ByteArray)), y2)) else (some (o1, 0)) | .inr (z) => some z))

set_option maxHeartbeats 4000000 in
set_option maxRecDepth 100000 in
theorem testgateref13_Decode_ok {N : Nat} {m : Mem} {own : List Piece} {w : World} {p0 : List UInt8} {a1 : Option Addr} {c1 : Nat} {r : List ByteArray × Int} (st : St m (own) w) (r1 : RepS cU8 m a1 c1 p0) (hr : testgateref13_Decode N p0 = some r) : Calls Go.Proofs.Try.prog 70 #[.slice a1 (List.length p0) c1] w fun e w' => ∃ (ra1 : Option Addr) (rc1 : Nat) (m' : Mem), e = .returned (.tuple #[.agg #[.slice ra1 (List.length r.1) rc1], .int .i64 r.2]) ∧ m.le m' ∧ St m' (.room ra1 (List.length r.1) rc1 9 1 :: own) w' ∧ RepS cStr m' ra1 rc1 r.1 := by
  unfold testgateref13_Decode at hr
  have hm := m.le_refl
  refine W_calls Go.Proofs.Try.func70 rfl Go.Proofs.Try.ntmps70 [(0, .slice a1 (List.length p0) c1)] (by kernel_rfl) rfl ?_
  refine W_seq ?_
  refine W_region ?_
  refine WO_one rfl (One_alloc (d := 2) (e := 24) (.agg #[.slice none 0 0]) (by kernel_rfl) rfl (by kernel_rfl) st ?_)
  clear st
  intro b1 w1 st
  refine WO_seg 1 [] (by kernel_rfl) (by kernel_rfl) ?_
  refine WO_end rfl ?_
  refine X_then ?_
  refine W_seq ?_
  refine W_region ?_
  refine WO_seg 1 [(12, .slice a1 (List.length p0) c1)] (by kernel_rfl) (by kernel_rfl) ?_
  replace hr := bindS hr
  obtain ⟨y1, hx1, hr⟩ := hr
  refine WO_one rfl (One_fn 13 40 #[.slice a1 (List.length p0) c1] (by kernel_rfl) rfl ?_)
  refine (testgateref03_Frames_ok st r1 hx1).mono ?_
  clear st
  rintro _ w2 ⟨a2, c2, m1, rfl, hle1, st, r2⟩
  refine ⟨_, rfl, ?_⟩
  have hm := Mem.le_trans hm hle1
  have r1 := r1.mono hle1
  refine WO_seg 7 [(4, .slice a2 (List.length y1.1) c2), (6, .int .i64 y1.2.2)] (by kernel_rfl) (by kernel_rfl) ?_
  refine WO_end rfl ?_
  refine X_then ?_
  refine W_seq ?_
  refine W_seq ?_
  refine W_region ?_
  refine WO_seg 2 [(18, .bool (y1.2.2 != 0))] (by kernel_rfl) (by kernel_rfl) ?_
  refine WO_end rfl ?_
  refine X_then ?_
  refine W_cond (y1.2.2 != 0) (by kernel_rfl) ?_ ?_
  · intro hc
    rw [if_pos hc] at hr
    refine W_seq ?_
    refine W_region ?_
    refine WO_seg 2 [(19, .agg #[.slice none (List.length ([] : List (ByteArray))) 0]), (20, .int .i64 y1.2.2)] (by kernel_rfl) (by kernel_rfl) ?_
    have st := st.front1
    refine WO_one rfl (One_store (t := 24) (x := (.tmp 2)) (y := (.tmp 19)) (v := .agg #[.slice none (List.length ([] : List (ByteArray))) 0]) (c' := #[.slice none (List.length ([] : List (ByteArray))) 0]) (by kernel_rfl) (show evL _ _ = some (.pointer (some ⟨b1, 0, none⟩)) from (by kernel_rfl)) (show evL _ _ = some (.agg #[.slice none (List.length ([] : List (ByteArray))) 0]) from (by kernel_rfl)) st (by kernel_rfl) (by kernel_rfl) ?_)
    clear st
    intro w3 st
    refine WO_seg 1 [(3, .int .i64 y1.2.2)] (by kernel_rfl) (by kernel_rfl) ?_
    refine WO_end rfl ?_
    have st := st.front1
    have st := st.tail
    refine X_then ?_
    refine W_ret ?_
    refine X_then_ret ?_
    obtain rfl := Option.some.inj hr
    refine X_ret [.cell 2 24, .tmp 3] [.agg #[.slice none (List.length ([] : List (ByteArray))) 0], .int .i64 y1.2.2] rfl (ResAll.cons (ResAt.blk (v := .agg #[.slice none (List.length ([] : List (ByteArray))) 0]) (o := 0) (by kernel_rfl) st.head (by kernel_rfl)) (ResAll.cons (ResAt.tmp (by kernel_rfl)) ResAll.nil)) ?_
    have st := st.nilroom 9 1
    have st := st.front1
    have st := st.tail
    exact ⟨none, 0, m1, rfl, hm, st, (RepS.nil _ _)⟩
  · intro hc
    rw [if_neg (not_true hc)] at hr
    refine W_skip ?_
    refine X_then ?_
    refine W_seq ?_
    refine W_region ?_
    refine WO_one rfl (One_alloc (d := 7) (e := 24) (.agg #[.slice none 0 0]) (by kernel_rfl) rfl (by kernel_rfl) st ?_)
    clear st
    intro b2 w4 st
    refine WO_end rfl ?_
    refine X_then ?_
    refine W_seq ?_
    refine W_seq ?_
    refine W_region ?_
    refine WO_seg 3 [(21, .slice a2 (List.length y1.1) c2), (22, .int .i64 (List.length y1.1 : Int)), (23, .int .i64 0)] (by kernel_rfl) (by kernel_rfl) ?_
    refine WO_end rfl ?_
    refine X_then ?_
    refine W_block ?_
    replace hr := bindS hr
    obtain ⟨out1, hr, hrKu1⟩ := hr
    refine W_cut (.exit 0) (fun L' w' => ∃ (o1 : List (ByteArray)) (a3 : Option Addr) (c3 : Nat) (m2 : Mem), (.inl o1) = out1 ∧ L' = [(2, .pointer (some ⟨b1, 0, none⟩)), (7, .pointer (some ⟨b2, 0, none⟩))] ∧ m.le m2 ∧ St m2 (.blk b2 (.cells #[.slice a3 (List.length o1) c3] 24 (0, 0)) :: .blk b1 (.cells #[.slice none (List.length ([] : List (ByteArray))) 0] 24 (0, 0)) :: .room a2 (List.length y1.1) c2 54 2 :: .room a3 (List.length o1) c3 9 1 :: own) w' ∧ RepS cStr m2 a3 c3 o1) ?_ ?_
    · clear hr st
      rintro _ w5 ⟨o1, a3, c3, m2, rfl, rfl, hm, st, r3⟩
      have hr := hrKu1
      clear hrKu1
      dsimp only at hr
      refine X_block_eq ?_
      refine X_then ?_
      refine W_seq ?_
      refine W_seq ?_
      refine W_region ?_
      refine WO_one rfl (One_load_own (d := 40) (t := 24) (x := (.tmp 7)) (.agg #[.slice a3 (List.length o1) c3]) (by kernel_rfl) rfl (show evL _ _ = some (.pointer (some ⟨b2, 0, none⟩)) from (by kernel_rfl)) st.head (by kernel_rfl) ?_)
      replace hr := bindS hr
      obtain ⟨y2, hx4, hr⟩ := hr
      refine WO_one rfl (One_fn 41 18 #[.agg #[.slice a3 (List.length o1) c3]] (by kernel_rfl) rfl ?_)
      refine (testgateref13_Check_ok st r3 hx4).mono ?_
      clear st
      rintro _ w13 ⟨m6, rfl, hle4, st⟩
      refine ⟨_, rfl, ?_⟩
      have hm := Mem.le_trans hm hle4
      have r3 := r3.mono hle4
      refine WO_seg 1 [(10, .int .i64 y2)] (by kernel_rfl) (by kernel_rfl) ?_
      refine WO_end rfl ?_
      have st := st.front2
      have st := st.tail
      refine X_then ?_
      refine W_seq ?_
      refine W_region ?_
      refine WO_seg 2 [(43, .bool (y2 != 0))] (by kernel_rfl) (by kernel_rfl) ?_
      refine WO_end rfl ?_
      refine X_then ?_
      refine W_cond (y2 != 0) (by kernel_rfl) ?_ ?_
      · intro hc
        rw [if_pos hc] at hr
        refine W_seq ?_
        refine W_region ?_
        refine WO_seg 2 [(44, .agg #[.slice none (List.length ([] : List (ByteArray))) 0]), (45, .int .i64 y2)] (by kernel_rfl) (by kernel_rfl) ?_
        have st := st.front1
        refine WO_one rfl (One_store (t := 24) (x := (.tmp 2)) (y := (.tmp 44)) (v := .agg #[.slice none (List.length ([] : List (ByteArray))) 0]) (c' := #[.slice none (List.length ([] : List (ByteArray))) 0]) (by kernel_rfl) (show evL _ _ = some (.pointer (some ⟨b1, 0, none⟩)) from (by kernel_rfl)) (show evL _ _ = some (.agg #[.slice none (List.length ([] : List (ByteArray))) 0]) from (by kernel_rfl)) st (by kernel_rfl) (by kernel_rfl) ?_)
        clear st
        intro w14 st
        refine WO_seg 1 [(3, .int .i64 y2)] (by kernel_rfl) (by kernel_rfl) ?_
        refine WO_end rfl ?_
        refine X_then ?_
        refine W_ret ?_
        refine X_then_ret ?_
        obtain rfl := Option.some.inj hr
        refine X_ret [.cell 2 24, .tmp 3] [.agg #[.slice none (List.length ([] : List (ByteArray))) 0], .int .i64 y2] rfl (ResAll.cons (ResAt.blk (v := .agg #[.slice none (List.length ([] : List (ByteArray))) 0]) (o := 0) (by kernel_rfl) st.head (by kernel_rfl)) (ResAll.cons (ResAt.tmp (by kernel_rfl)) ResAll.nil)) ?_
        have st := st.nilroom 9 1
        have st := st.front1
        have st := st.tail
        have st := st.front1
        have st := st.tail
        have st := st.front1
        have st := st.tail
        exact ⟨none, 0, m6, rfl, hm, st, (RepS.nil _ _)⟩
      · intro hc
        rw [if_neg (not_true hc)] at hr
        refine W_skip ?_
        refine X_then ?_
        refine W_seq ?_
        refine W_region ?_
        refine WO_one rfl (One_load_own (d := 46) (t := 24) (x := (.tmp 7)) (.agg #[.slice a3 (List.length o1) c3]) (by kernel_rfl) rfl (show evL _ _ = some (.pointer (some ⟨b2, 0, none⟩)) from (by kernel_rfl)) st.head (by kernel_rfl) ?_)
        have st := st.front1
        refine WO_one rfl (One_store (t := 24) (x := (.tmp 2)) (y := (.tmp 46)) (v := .agg #[.slice a3 (List.length o1) c3]) (c' := #[.slice a3 (List.length o1) c3]) (by kernel_rfl) (show evL _ _ = some (.pointer (some ⟨b1, 0, none⟩)) from (by kernel_rfl)) (show evL _ _ = some (.agg #[.slice a3 (List.length o1) c3]) from (by kernel_rfl)) st (by kernel_rfl) (by kernel_rfl) ?_)
        clear st
        intro w15 st
        refine WO_seg 1 [(3, .int .i64 0)] (by kernel_rfl) (by kernel_rfl) ?_
        refine WO_end rfl ?_
        refine X_then ?_
        refine W_ret ?_
        obtain rfl := Option.some.inj hr
        refine X_ret [.cell 2 24, .tmp 3] [.agg #[.slice a3 (List.length o1) c3], .int .i64 0] rfl (ResAll.cons (ResAt.blk (v := .agg #[.slice a3 (List.length o1) c3]) (o := 0) (by kernel_rfl) st.head (by kernel_rfl)) (ResAll.cons (ResAt.tmp (by kernel_rfl)) ResAll.nil)) ?_
        have st := st.tail
        have st := st.tail
        exact ⟨a3, c3, m6, rfl, hm, st, r3⟩
    intro K0_u1
    have st := st.nilroom 9 1
    have st := st.front2
    have st := st.front3
    have st := st.front3
    refine W_env _ (by kernel_rfl) (W_loop (fun k1 L' w' => ∃ (s1 : Int × List (ByteArray)) (a4 : Option Addr) (c4 : Nat) (m3 : Mem), loopM (testgateref13_Decode_L1 N y1) k1 s1 = some out1 ∧ L' = [(2, .pointer (some ⟨b1, 0, none⟩)), (7, .pointer (some ⟨b2, 0, none⟩)), (21, .slice a2 (List.length y1.1) c2), (22, .int .i64 (List.length y1.1 : Int)), (23, .int .i64 s1.1)] ∧ m.le m3 ∧ St m3 (.blk b2 (.cells #[.slice a4 (List.length s1.2) c4] 24 (0, 0)) :: .blk b1 (.cells #[.slice none (List.length ([] : List (ByteArray))) 0] 24 (0, 0)) :: .room a2 (List.length y1.1) c2 54 2 :: .room a4 (List.length s1.2) c4 9 1 :: own) w' ∧ RepS (cPair (cInt .i64) (cSl cU8)) m3 a2 c2 y1.1 ∧ RepS cStr m3 a4 c4 s1.2) N ⟨(0, ([] : List (ByteArray))), none, 0, m1, hr, rfl, hm, st, r2, (RepS.nil _ _)⟩ ?_)
    clear st hr
    rintro k1 _ w6 ⟨s1, a4, c4, m3, hL, rfl, hm, st, r2, r4⟩
    rcases k1 with _ | k1
    · exact loopM_zero hL
    · obtain ⟨qu1, hr, hSu1, hBu1⟩ := loopM_succ hL
      clear hL
      unfold testgateref13_Decode_L1 at hr
      refine W_seq ?_
      refine W_region ?_
      refine WO_seg 1 [(24, .bool (decide (s1.1 < (List.length y1.1 : Int))))] (by kernel_rfl) (by kernel_rfl) ?_
      refine WO_end rfl ?_
      refine X_then ?_
      refine W_seq ?_
      refine W_cond (decide (s1.1 < (List.length y1.1 : Int))) (by kernel_rfl) ?_ ?_
      · intro hc
        rw [if_pos hc] at hr
        refine W_skip ?_
        refine X_then ?_
        refine W_seq ?_
        refine W_block ?_
        refine W_seq ?_
        refine W_region ?_
        replace hr := bindS hr
        obtain ⟨x1, hx2, hr⟩ := hr
        refine WO_one rfl (One_index (d := 25) (t := 62) (e := 54) (x := (.tmp 21)) (y := (.tmp 23)) (cPair (cInt .i64) (cSl cU8)) (by kernel_rfl) rfl (show evL _ _ = some (.slice a2 (List.length y1.1) c2) from (by kernel_rfl)) (show evL _ _ = some (.int .i64 s1.1) from (by kernel_rfl)) (by kernel_rfl) r2 hx2 ?_)
        rintro b3 f1 cs1 ⟨_, _, rfl, rfl, ⟨a5, c5, rfl, r5⟩⟩ hq1
        refine WO_one rfl (One_load_row (d := 26) (t := 54) (x := (.tmp 25)) (.agg #[.int .i64 x1.1, .slice a5 (List.length x1.2) c5]) (by kernel_rfl) rfl (show evL _ _ = some (.pointer (some ⟨b3, f1, none⟩)) from (by kernel_rfl)) st hq1 (by kernel_rfl) ?_)
        refine WO_one rfl (One_alloc (d := 9) (e := 54) (.agg #[.int .i64 0, .slice none 0 0]) (by kernel_rfl) rfl (by kernel_rfl) st ?_)
        clear st
        intro b4 w7 st
        refine WO_one rfl (One_store (t := 54) (x := (.tmp 9)) (y := (.tmp 26)) (v := .agg #[.int .i64 x1.1, .slice a5 (List.length x1.2) c5]) (c' := #[.int .i64 x1.1, .slice a5 (List.length x1.2) c5]) (by kernel_rfl) (show evL _ _ = some (.pointer (some ⟨b4, 0, none⟩)) from (by kernel_rfl)) (show evL _ _ = some (.agg #[.int .i64 x1.1, .slice a5 (List.length x1.2) c5]) from (by kernel_rfl)) st (by kernel_rfl) (by kernel_rfl) ?_)
        clear st
        intro w8 st
        refine WO_end rfl ?_
        refine X_then ?_
        refine W_seq ?_
        refine W_seq ?_
        refine W_region ?_
        refine WO_seg 1 [(27, .pointer (some ⟨b4, 0, none⟩))] (by kernel_rfl) (by kernel_rfl) ?_
        refine WO_one rfl (One_load_own (d := 28) (t := 3) (x := (.tmp 27)) (.int .i64 x1.1) (by kernel_rfl) rfl (show evL _ _ = some (.pointer (some ⟨b4, 0, none⟩)) from (by kernel_rfl)) st.head (by kernel_rfl) ?_)
        refine WO_seg 1 [(29, .bool (x1.1 != 3))] (by kernel_rfl) (by kernel_rfl) ?_
        refine WO_end rfl ?_
        refine X_then ?_
        refine W_cond (x1.1 != 3) (by kernel_rfl) ?_ ?_
        · intro hc
          rw [if_pos hc] at hr
          refine W_seq ?_
          refine W_region ?_
          refine WO_seg 1 [(30, .agg #[.slice none (List.length ([] : List (ByteArray))) 0])] (by kernel_rfl) (by kernel_rfl) ?_
          have st := st.front2
          refine WO_one rfl (One_store (t := 24) (x := (.tmp 2)) (y := (.tmp 30)) (v := .agg #[.slice none (List.length ([] : List (ByteArray))) 0]) (c' := #[.slice none (List.length ([] : List (ByteArray))) 0]) (by kernel_rfl) (show evL _ _ = some (.pointer (some ⟨b1, 0, none⟩)) from (by kernel_rfl)) (show evL _ _ = some (.agg #[.slice none (List.length ([] : List (ByteArray))) 0]) from (by kernel_rfl)) st (by kernel_rfl) (by kernel_rfl) ?_)
          clear st
          intro w9 st
          refine WO_seg 1 [(3, .int .i64 6)] (by kernel_rfl) (by kernel_rfl) ?_
          refine WO_end rfl ?_
          have st := st.front3
          have st := st.tail
          refine X_then ?_
          refine W_ret ?_
          refine X_then_ret ?_
          refine X_block_ret ?_
          refine X_then_ret ?_
          obtain rfl := Option.some.inj hr
          have ho := hBu1 _ rfl
          subst ho
          have hr := hrKu1
          dsimp only at hr
          refine X_then_ret ?_
          refine X_block_ret ?_
          refine X_then_ret ?_
          obtain rfl := Option.some.inj hr
          refine X_ret [.cell 2 24, .tmp 3] [.agg #[.slice none (List.length ([] : List (ByteArray))) 0], .int .i64 6] rfl (ResAll.cons (ResAt.blk (v := .agg #[.slice none (List.length ([] : List (ByteArray))) 0]) (o := 0) (by kernel_rfl) st.head (by kernel_rfl)) (ResAll.cons (ResAt.tmp (by kernel_rfl)) ResAll.nil)) ?_
          have st := st.nilroom 9 1
          have st := st.front1
          have st := st.tail
          have st := st.front1
          have st := st.tail
          have st := st.front1
          have st := st.tail
          have st := st.front1
          have st := st.tail
          exact ⟨none, 0, m3, rfl, hm, st, (RepS.nil _ _)⟩
        · intro hc
          rw [if_neg (not_true hc)] at hr
          refine W_skip ?_
          refine X_then ?_
          refine W_region ?_
          refine WO_seg 1 [(31, .pointer (some ⟨b2, 0, none⟩))] (by kernel_rfl) (by kernel_rfl) ?_
          refine WO_one rfl (One_load_own (d := 32) (t := 22) (x := (.tmp 31)) (.slice a4 (List.length s1.2) c4) (by kernel_rfl) rfl (show evL _ _ = some (.pointer (some ⟨b2, 0, none⟩)) from (by kernel_rfl)) st.tail.head (by kernel_rfl) ?_)
          refine WO_seg 1 [(33, .pointer (some ⟨b4, 1, none⟩))] (by kernel_rfl) (by kernel_rfl) ?_
          refine WO_one rfl (One_load_own (d := 34) (t := 50) (x := (.tmp 33)) (.slice a5 (List.length x1.2) c5) (by kernel_rfl) rfl (show evL _ _ = some (.pointer (some ⟨b4, 1, none⟩)) from (by kernel_rfl)) st.head (by kernel_rfl) ?_)
          refine WO_one rfl (One_bytesStr (d := 35) (t1 := 50) (t2 := 9) (e := 5) (x := (.tmp 34)) (by kernel_rfl) rfl (show evL _ _ = some (.slice a5 (List.length x1.2) c5) from (by kernel_rfl)) (by kernel_rfl) (by kernel_rfl) st r5 ?_)
          refine WO_one rfl (One_buildSlice (d := 36) (t := 22) (e := 9) (len := 1) (parts := #[(0, (.tmp 35))]) cStr (xs := [strOf x1.2]) [.string (strOf x1.2)] (by kernel_rfl) rfl (fun _ => buildCells_run (by kernel_rfl) _) rfl rfl st ⟨[.string (strOf x1.2)], _, rfl, rfl, rfl⟩ ?_)
          clear st
          intro b5 m4 w10 hle2 st r6
          have hm := Mem.le_trans hm hle2
          have r2 := r2.mono hle2
          have r4 := r4.mono hle2
          have r5 := r5.mono hle2
          have st := st.front5
          replace hr := bindS hr
          obtain ⟨l1, hx3, hr⟩ := hr
          refine WO_one rfl (One_append (d := 37) (t := 22) (u := 22) (e := 9) (by_ := 16) (x := (.tmp 32)) (y := (.tmp 36)) cStr (by kernel_rfl) rfl (show evL _ _ = some (.slice a4 (List.length s1.2) c4) from (by kernel_rfl)) (show evL _ _ = some (.slice (some ⟨b5, 0, none⟩) (List.length ([strOf x1.2])) 1) from (by kernel_rfl)) st (by kernel_rfl) (.inl (by kernel_rfl)) r4 r6.src hx3 ?_)
          clear st
          intro a6 c6 m5 w11 hle3 st r7
          have hm := Mem.le_trans hm hle3
          have r2 := r2.mono hle3
          have r4 := r4.mono hle3
          have r5 := r5.mono hle3
          have r6 := r6.mono hle3
          refine WO_seg 1 [(38, .pointer (some ⟨b2, 0, none⟩))] (by kernel_rfl) (by kernel_rfl) ?_
          have st := st.front3
          refine WO_one rfl (One_store (t := 22) (x := (.tmp 38)) (y := (.tmp 37)) (v := .slice a6 (List.length l1) c6) (c' := #[.slice a6 (List.length l1) c6]) (by kernel_rfl) (show evL _ _ = some (.pointer (some ⟨b2, 0, none⟩)) from (by kernel_rfl)) (show evL _ _ = some (.slice a6 (List.length l1) c6) from (by kernel_rfl)) st (by kernel_rfl) (by kernel_rfl) ?_)
          clear st
          intro w12 st
          refine WO_end rfl ?_
          have st := st.front2
          have st := st.tail
          refine X_block ?_
          refine X_then ?_
          refine W_region ?_
          refine WO_seg 2 [(23, .int .i64 (IntKind.wrap .i64 (s1.1 + 1)))] (by kernel_rfl) (by kernel_rfl) ?_
          refine WO_end rfl ?_
          obtain rfl := Option.some.inj hr
          have hL := hSu1 _ rfl
          have st := st.front2
          have st := st.tail
          have st := st.front1
          have st := st.front3
          have st := st.front3
          have st := st.front3
          exact X_env _ (by kernel_rfl) (X_round k1 (Nat.lt_succ_self _) ⟨(IntKind.wrap .i64 (s1.1 + 1), l1), a6, c6, m5, hL, rfl, hm, st, r2, r7⟩)
      · intro hc
        rw [if_neg (not_true hc)] at hr
        refine W_exit ?_
        refine X_then_exit ?_
        obtain rfl := Option.some.inj hr
        have ho := hBu1 _ rfl
        have st := st.front3
        have st := st.front3
        have st := st.front3
        have st := st.front3
        refine X_then_exit ?_
        exact X_env _ (by kernel_rfl) (K0_u1 _ _ ⟨s1.2, a4, c4, m3, ho, rfl, hm, st, r4⟩)

def testgatelaw13_decodes (N : Nat) (p0 : List UInt8) : Option (Bool) :=
  (contents_Decode N p0).bind fun y1 => (testgateref13_Decode N p0).bind fun y2 => (if (y1.2 == y2.2) = true then ((testgateref13_Same N y1.1 y2.1).bind fun y3 => some y3) else (some false) : Option (Bool)).bind fun o1 => some o1

set_option maxHeartbeats 4000000 in
set_option maxRecDepth 100000 in
theorem testgatelaw13_decodes_ok {N : Nat} {m : Mem} {own : List Piece} {w : World} {p0 : List UInt8} {a1 : Option Addr} {c1 : Nat} {r : Bool} (st : St m (own) w) (r1 : RepS cU8 m a1 c1 p0) (hr : testgatelaw13_decodes N p0 = some r) : Calls Go.Proofs.Try.prog 58 #[.slice a1 (List.length p0) c1] w fun e w' => ∃ (m' : Mem), e = .returned (.bool r) ∧ m.le m' ∧ St m' (own) w' := by
  unfold testgatelaw13_decodes at hr
  have hm := m.le_refl
  refine W_calls Go.Proofs.Try.func58 rfl Go.Proofs.Try.ntmps58 [(0, .slice a1 (List.length p0) c1)] (by kernel_rfl) rfl ?_
  refine W_seq ?_
  refine W_region ?_
  refine WO_seg 1 [] (by kernel_rfl) (by kernel_rfl) ?_
  refine WO_end rfl ?_
  refine X_then ?_
  refine W_seq ?_
  refine W_region ?_
  refine WO_seg 1 [(8, .slice a1 (List.length p0) c1)] (by kernel_rfl) (by kernel_rfl) ?_
  replace hr := bindS hr
  obtain ⟨y1, hx1, hr⟩ := hr
  refine WO_one rfl (One_fn 9 61 #[.slice a1 (List.length p0) c1] (by kernel_rfl) rfl ?_)
  refine (contents_Decode_ok st r1 hx1).mono ?_
  clear st
  rintro _ w1 ⟨a2, c2, m1, rfl, hle1, st, r2⟩
  refine ⟨_, rfl, ?_⟩
  have hm := Mem.le_trans hm hle1
  have r1 := r1.mono hle1
  refine WO_seg 3 [(10, .agg #[.slice a2 (List.length y1.1) c2]), (11, .int .i64 y1.2)] (by kernel_rfl) (by kernel_rfl) ?_
  refine WO_one rfl (One_alloc (d := 3) (e := 24) (.agg #[.slice none 0 0]) (by kernel_rfl) rfl (by kernel_rfl) st ?_)
  clear st
  intro b1 w2 st
  refine WO_one rfl (One_store (t := 24) (x := (.tmp 3)) (y := (.tmp 10)) (v := .agg #[.slice a2 (List.length y1.1) c2]) (c' := #[.slice a2 (List.length y1.1) c2]) (by kernel_rfl) (show evL _ _ = some (.pointer (some ⟨b1, 0, none⟩)) from (by kernel_rfl)) (show evL _ _ = some (.agg #[.slice a2 (List.length y1.1) c2]) from (by kernel_rfl)) st (by kernel_rfl) (by kernel_rfl) ?_)
  clear st
  intro w3 st
  refine WO_seg 1 [(4, .int .i64 y1.2)] (by kernel_rfl) (by kernel_rfl) ?_
  refine WO_end rfl ?_
  refine X_then ?_
  refine W_seq ?_
  refine W_region ?_
  refine WO_seg 1 [(13, .slice a1 (List.length p0) c1)] (by kernel_rfl) (by kernel_rfl) ?_
  replace hr := bindS hr
  obtain ⟨y2, hx2, hr⟩ := hr
  refine WO_one rfl (One_fn 14 70 #[.slice a1 (List.length p0) c1] (by kernel_rfl) rfl ?_)
  refine (testgateref13_Decode_ok st r1 hx2).mono ?_
  clear st
  rintro _ w4 ⟨a3, c3, m2, rfl, hle2, st, r3⟩
  refine ⟨_, rfl, ?_⟩
  have hm := Mem.le_trans hm hle2
  have r1 := r1.mono hle2
  have r2 := r2.mono hle2
  refine WO_seg 3 [(15, .agg #[.slice a3 (List.length y2.1) c3]), (16, .int .i64 y2.2)] (by kernel_rfl) (by kernel_rfl) ?_
  refine WO_one rfl (One_alloc (d := 5) (e := 24) (.agg #[.slice none 0 0]) (by kernel_rfl) rfl (by kernel_rfl) st ?_)
  clear st
  intro b2 w5 st
  refine WO_one rfl (One_store (t := 24) (x := (.tmp 5)) (y := (.tmp 15)) (v := .agg #[.slice a3 (List.length y2.1) c3]) (c' := #[.slice a3 (List.length y2.1) c3]) (by kernel_rfl) (show evL _ _ = some (.pointer (some ⟨b2, 0, none⟩)) from (by kernel_rfl)) (show evL _ _ = some (.agg #[.slice a3 (List.length y2.1) c3]) from (by kernel_rfl)) st (by kernel_rfl) (by kernel_rfl) ?_)
  clear st
  intro w6 st
  refine WO_seg 1 [(6, .int .i64 y2.2)] (by kernel_rfl) (by kernel_rfl) ?_
  refine WO_end rfl ?_
  refine X_then ?_
  refine W_seq ?_
  refine W_region ?_
  replace hr := bindS hr
  obtain ⟨o1, hr, hrK⟩ := hr
  refine WO_cut (j := 9) (fun L' w' => ∃ (m3 : Mem), L' = [(2, .bool o1)] ∧ m.le m3 ∧ St m3 (.blk b2 (.cells #[.slice a3 (List.length y2.1) c3] 24 (0, 0)) :: .blk b1 (.cells #[.slice a2 (List.length y1.1) c2] 24 (0, 0)) :: .room a3 (List.length y2.1) c3 9 1 :: .room a2 (List.length y1.1) c2 9 1 :: own) w' ∧ RepS cStr m3 a3 c3 y2.1 ∧ RepS cStr m3 a2 c2 y1.1) ?_ ?_
  · clear hr st
    have hr := hrK
    clear hrK
    rintro _ w7 ⟨m3, rfl, hm, st, r3, r2⟩
    refine WO_end rfl ?_
    refine X_then ?_
    refine W_ret ?_
    obtain rfl := Option.some.inj hr
    refine X_ret [.tmp 2] [.bool o1] rfl (ResAll.cons (ResAt.tmp (by kernel_rfl)) ResAll.nil) ?_
    have st := st.tail
    have st := st.tail
    have st := st.tail
    have st := st.tail
    exact ⟨m3, rfl, hm, st⟩
  · intro K
    clear hrK
    refine WO_seg 4 [(20, .bool (y1.2 == y2.2))] (by kernel_rfl) (by kernel_rfl) ?_
    rcases bcases (y1.2 == y2.2) with hc | hc
    · rw [if_pos hc] at hr
      refine WO_fact (t := 20) (b := true) (y1.2 == y2.2) (by kernel_rfl) hc ?_
      refine WO_one rfl (One_load_own (d := 21) (t := 24) (x := (.tmp 3)) (.agg #[.slice a2 (List.length y1.1) c2]) (by kernel_rfl) rfl (show evL _ _ = some (.pointer (some ⟨b1, 0, none⟩)) from (by kernel_rfl)) st.tail.tail.head (by kernel_rfl) ?_)
      refine WO_one rfl (One_load_own (d := 22) (t := 24) (x := (.tmp 5)) (.agg #[.slice a3 (List.length y2.1) c3]) (by kernel_rfl) rfl (show evL _ _ = some (.pointer (some ⟨b2, 0, none⟩)) from (by kernel_rfl)) st.head (by kernel_rfl) ?_)
      replace hr := bindS hr
      obtain ⟨y3, hx3, hr⟩ := hr
      refine WO_one rfl (One_fn 23 22 #[.agg #[.slice a2 (List.length y1.1) c2], .agg #[.slice a3 (List.length y2.1) c3]] (by kernel_rfl) rfl ?_)
      refine (testgateref13_Same_ok st r2 r3 hx3).mono ?_
      clear st
      rintro _ w8 ⟨m4, rfl, hle3, st⟩
      refine ⟨_, rfl, ?_⟩
      have hm := Mem.le_trans hm hle3
      have r2 := r2.mono hle3
      have r3 := r3.mono hle3
      refine WO_seg 2 [(2, .bool y3)] (by kernel_rfl) (by kernel_rfl) ?_
      obtain rfl := Option.some.inj hr
      have st := st.front3
      have st := st.front2
      have st := st.front3
      have st := st.front3
      exact WO_env _ (by kernel_rfl) (K _ _ ⟨m4, rfl, hm, st, r3, r2⟩)
    · rw [if_neg (not_true hc)] at hr
      refine WO_fact (t := 20) (b := false) (y1.2 == y2.2) (by kernel_rfl) hc ?_
      refine WO_seg 5 [(2, .bool false)] (by kernel_rfl) (by kernel_rfl) ?_
      obtain rfl := Option.some.inj hr
      have st := st.front3
      have st := st.front2
      have st := st.front3
      have st := st.front3
      exact WO_env _ (by kernel_rfl) (K _ _ ⟨m2, rfl, hm, st, r3, r2⟩)

def slices_Index_string_string_L1 (N : Nat) (p0 : List ByteArray) (p1 : ByteArray) (s1 : Int) : Option ((Int) ⊕ ((Unit) ⊕ (Int))) :=
  if (decide (s1 < (List.length p0 : Int))) = true then ((idx p0 s1).bind fun x1 => if (p1.toList == x1.toList) = true then (some (.inr (.inr (s1)))) else (some (.inl (IntKind.wrap .i64 (s1 + 1))))) else (some (.inr (.inl ())))

def slices_Index_string_string (N : Nat) (p0 : List ByteArray) (p1 : ByteArray) : Option (Int) :=
  (loopM (slices_Index_string_string_L1 N p0 p1) N 0).bind fun out1 => (match out1 with | .inl o1 => some (-1) | .inr (z) => some z)

set_option maxHeartbeats 4000000 in
set_option maxRecDepth 100000 in
theorem slices_Index_string_string_ok {N : Nat} {m : Mem} {own : List Piece} {w : World} {p0 : List ByteArray} {p1 : ByteArray} {a1 : Option Addr} {c1 : Nat} {r : Int} (st : St m (own) w) (r1 : RepS cStr m a1 c1 p0) (hr : slices_Index_string_string N p0 p1 = some r) : Calls Go.Proofs.Try.prog 64 #[.slice a1 (List.length p0) c1, .string p1] w fun e w' => ∃ (m' : Mem), e = .returned (.int .i64 r) ∧ m.le m' ∧ St m' (own) w' := by
  unfold slices_Index_string_string at hr
  have hm := m.le_refl
  refine W_calls Go.Proofs.Try.func64 rfl Go.Proofs.Try.ntmps64 [(0, .slice a1 (List.length p0) c1), (1, .string p1)] (by kernel_rfl) rfl ?_
  refine W_seq ?_
  refine W_region ?_
  refine WO_seg 1 [] (by kernel_rfl) (by kernel_rfl) ?_
  refine WO_end rfl ?_
  refine X_then ?_
  refine W_seq ?_
  refine W_seq ?_
  refine W_region ?_
  refine WO_seg 3 [(7, .int .i64 (List.length p0 : Int)), (8, .int .i64 0)] (by kernel_rfl) (by kernel_rfl) ?_
  refine WO_end rfl ?_
  refine X_then ?_
  refine W_block ?_
  replace hr := bindS hr
  obtain ⟨out1, hr, hrKu1⟩ := hr
  refine W_cut (.exit 0) (fun L' w' => ∃ (o1 : Unit) (m1 : Mem), (.inl o1) = out1 ∧ L' = [] ∧ m.le m1 ∧ St m1 (own) w') ?_ ?_
  · clear hr st
    rintro _ w1 ⟨o1, m1, rfl, rfl, hm, st⟩
    have hr := hrKu1
    clear hrKu1
    dsimp only at hr
    refine X_block_eq ?_
    refine X_then ?_
    refine W_seq ?_
    refine W_region ?_
    refine WO_seg 1 [(4, .int .i64 (-1))] (by kernel_rfl) (by kernel_rfl) ?_
    refine WO_end rfl ?_
    refine X_then ?_
    refine W_ret ?_
    obtain rfl := Option.some.inj hr
    refine X_ret [.tmp 4] [.int .i64 (-1)] rfl (ResAll.cons (ResAt.tmp (by kernel_rfl)) ResAll.nil) ?_
    exact ⟨m1, rfl, hm, st⟩
  intro K0_u1
  refine W_env _ (by kernel_rfl) (W_loop (fun k1 L' w' => ∃ (s1 : Int) (m2 : Mem), loopM (slices_Index_string_string_L1 N p0 p1) k1 s1 = some out1 ∧ L' = [(0, .slice a1 (List.length p0) c1), (1, .string p1), (7, .int .i64 (List.length p0 : Int)), (8, .int .i64 s1)] ∧ m.le m2 ∧ St m2 (own) w' ∧ RepS cStr m2 a1 c1 p0) N ⟨0, m, hr, rfl, hm, st, r1⟩ ?_)
  clear st hr
  rintro k1 _ w2 ⟨s1, m2, hL, rfl, hm, st, r1⟩
  rcases k1 with _ | k1
  · exact loopM_zero hL
  · obtain ⟨qu1, hr, hSu1, hBu1⟩ := loopM_succ hL
    clear hL
    unfold slices_Index_string_string_L1 at hr
    refine W_seq ?_
    refine W_region ?_
    refine WO_seg 1 [(9, .bool (decide (s1 < (List.length p0 : Int))))] (by kernel_rfl) (by kernel_rfl) ?_
    refine WO_end rfl ?_
    refine X_then ?_
    refine W_seq ?_
    refine W_cond (decide (s1 < (List.length p0 : Int))) (by kernel_rfl) ?_ ?_
    · intro hc
      rw [if_pos hc] at hr
      refine W_skip ?_
      refine X_then ?_
      refine W_seq ?_
      refine W_block ?_
      refine W_seq ?_
      refine W_region ?_
      refine WO_seg 2 [(5, .int .i64 s1)] (by kernel_rfl) (by kernel_rfl) ?_
      refine WO_end rfl ?_
      refine X_then ?_
      refine W_seq ?_
      refine W_region ?_
      refine WO_seg 3 [(11, .string p1), (12, .slice a1 (List.length p0) c1), (13, .int .i64 s1)] (by kernel_rfl) (by kernel_rfl) ?_
      replace hr := bindS hr
      obtain ⟨x1, hx1, hr⟩ := hr
      refine WO_one rfl (One_index (d := 14) (t := 22) (e := 9) (x := (.tmp 12)) (y := (.tmp 13)) cStr (by kernel_rfl) rfl (show evL _ _ = some (.slice a1 (List.length p0) c1) from (by kernel_rfl)) (show evL _ _ = some (.int .i64 s1) from (by kernel_rfl)) (by kernel_rfl) r1 hx1 ?_)
      rintro b1 f1 cs1 rfl hq1
      refine WO_one rfl (One_load_row (d := 15) (t := 9) (x := (.tmp 14)) (.string x1) (by kernel_rfl) rfl (show evL _ _ = some (.pointer (some ⟨b1, f1, none⟩)) from (by kernel_rfl)) st hq1 (by kernel_rfl) ?_)
      refine WO_seg 1 [(16, .bool (p1.toList == x1.toList))] (by kernel_rfl) (by kernel_rfl) ?_
      refine WO_end rfl ?_
      refine X_then ?_
      refine W_cond (p1.toList == x1.toList) (by kernel_rfl) ?_ ?_
      · intro hc
        rw [if_pos hc] at hr
        refine W_seq ?_
        refine W_region ?_
        refine WO_seg 2 [(4, .int .i64 s1)] (by kernel_rfl) (by kernel_rfl) ?_
        refine WO_end rfl ?_
        refine X_then ?_
        refine W_ret ?_
        refine X_block_ret ?_
        refine X_then_ret ?_
        obtain rfl := Option.some.inj hr
        have ho := hBu1 _ rfl
        subst ho
        have hr := hrKu1
        dsimp only at hr
        refine X_then_ret ?_
        refine X_block_ret ?_
        refine X_then_ret ?_
        obtain rfl := Option.some.inj hr
        refine X_ret [.tmp 4] [.int .i64 s1] rfl (ResAll.cons (ResAt.tmp (by kernel_rfl)) ResAll.nil) ?_
        exact ⟨m2, rfl, hm, st⟩
      · intro hc
        rw [if_neg (not_true hc)] at hr
        refine W_skip ?_
        refine X_block ?_
        refine X_then ?_
        refine W_region ?_
        refine WO_seg 2 [(8, .int .i64 (IntKind.wrap .i64 (s1 + 1)))] (by kernel_rfl) (by kernel_rfl) ?_
        refine WO_end rfl ?_
        obtain rfl := Option.some.inj hr
        have hL := hSu1 _ rfl
        exact X_env _ (by kernel_rfl) (X_round k1 (Nat.lt_succ_self _) ⟨IntKind.wrap .i64 (s1 + 1), m2, hL, rfl, hm, st, r1⟩)
    · intro hc
      rw [if_neg (not_true hc)] at hr
      refine W_exit ?_
      refine X_then_exit ?_
      obtain rfl := Option.some.inj hr
      have ho := hBu1 _ rfl
      refine X_then_exit ?_
      exact X_env _ (by kernel_rfl) (K0_u1 _ _ ⟨(), m2, ho, rfl, hm, st⟩)

def contents_Find (N : Nat) (p0 : List ByteArray) (p1 : ByteArray) : Option (Int × Bool) :=
  (contents_Check N p0).bind fun y1 => if (y1 != 0) = true then (some (0, false)) else ((slices_Index_string_string N p0 p1).bind fun y2 => some (if 0 > y2 then 0 else y2, decide (y2 ≥ 0)))

set_option maxHeartbeats 4000000 in
set_option maxRecDepth 100000 in
theorem contents_Find_ok {N : Nat} {m : Mem} {own : List Piece} {w : World} {p0 : List ByteArray} {p1 : ByteArray} {a1 : Option Addr} {c1 : Nat} {r : Int × Bool} (st : St m (own) w) (r1 : RepS cStr m a1 c1 p0) (hr : contents_Find N p0 p1 = some r) : Calls Go.Proofs.Try.prog 19 #[.agg #[.slice a1 (List.length p0) c1], .string p1] w fun e w' => ∃ (m' : Mem), e = .returned (.tuple #[.int .i64 r.1, .bool r.2]) ∧ m.le m' ∧ St m' (own) w' := by
  unfold contents_Find at hr
  have hm := m.le_refl
  refine W_calls Go.Proofs.Try.func19 rfl Go.Proofs.Try.ntmps19 [(0, .agg #[.slice a1 (List.length p0) c1]), (1, .string p1)] (by kernel_rfl) rfl ?_
  refine W_seq ?_
  refine W_region ?_
  refine WO_one rfl (One_box (d := 2) (e := 24) (x := (.tmp 0)) (.agg #[.slice a1 (List.length p0) c1]) (by kernel_rfl) rfl (by kernel_rfl) st ?_)
  clear st
  intro b1 m1 w1 hle1 st hb1
  have hm := Mem.le_trans hm hle1
  have r1 := r1.mono hle1
  refine WO_seg 2 [] (by kernel_rfl) (by kernel_rfl) ?_
  refine WO_end rfl ?_
  refine X_then ?_
  refine W_seq ?_
  refine W_seq ?_
  refine W_region ?_
  refine WO_one rfl (One_load_row (d := 7) (t := 24) (x := (.tmp 2)) (.agg #[.slice a1 (List.length p0) c1]) (by kernel_rfl) rfl (show evL _ _ = some (.pointer (some ⟨b1, 0, none⟩)) from (by kernel_rfl)) st hb1 (by kernel_rfl) ?_)
  replace hr := bindS hr
  obtain ⟨y1, hx1, hr⟩ := hr
  refine WO_one rfl (One_fn 8 14 #[.agg #[.slice a1 (List.length p0) c1]] (by kernel_rfl) rfl ?_)
  refine (contents_Check_ok st r1 hx1).mono ?_
  clear st
  rintro _ w2 ⟨m2, rfl, hle2, st⟩
  refine ⟨_, rfl, ?_⟩
  have hm := Mem.le_trans hm hle2
  have hb1 := hb1.mono hle2
  have r1 := r1.mono hle2
  refine WO_seg 1 [(9, .bool (y1 != 0))] (by kernel_rfl) (by kernel_rfl) ?_
  refine WO_end rfl ?_
  refine X_then ?_
  refine W_cond (y1 != 0) (by kernel_rfl) ?_ ?_
  · intro hc
    rw [if_pos hc] at hr
    refine W_seq ?_
    refine W_region ?_
    refine WO_seg 2 [(4, .int .i64 0), (5, .bool false)] (by kernel_rfl) (by kernel_rfl) ?_
    refine WO_end rfl ?_
    refine X_then ?_
    refine W_ret ?_
    refine X_then_ret ?_
    obtain rfl := Option.some.inj hr
    refine X_ret [.tmp 4, .tmp 5] [.int .i64 0, .bool false] rfl (ResAll.cons (ResAt.tmp (by kernel_rfl)) (ResAll.cons (ResAt.tmp (by kernel_rfl)) ResAll.nil)) ?_
    exact ⟨m2, rfl, hm, st⟩
  · intro hc
    rw [if_neg (not_true hc)] at hr
    refine W_skip ?_
    refine X_then ?_
    refine W_seq ?_
    refine W_region ?_
    refine WO_seg 1 [(10, .pointer (some ⟨b1, 0, none⟩))] (by kernel_rfl) (by kernel_rfl) ?_
    refine WO_one rfl (One_load_row (d := 11) (t := 22) (x := (.tmp 10)) (.slice a1 (List.length p0) c1) (by kernel_rfl) rfl (show evL _ _ = some (.pointer (some ⟨b1, 0, none⟩)) from (by kernel_rfl)) st hb1 (by kernel_rfl) ?_)
    refine WO_seg 1 [(12, .string p1)] (by kernel_rfl) (by kernel_rfl) ?_
    replace hr := bindS hr
    obtain ⟨y2, hx2, hr⟩ := hr
    refine WO_one rfl (One_fn 13 64 #[.slice a1 (List.length p0) c1, .string p1] (by kernel_rfl) rfl ?_)
    refine (slices_Index_string_string_ok st r1 hx2).mono ?_
    clear st
    rintro _ w3 ⟨m3, rfl, hle3, st⟩
    refine ⟨_, rfl, ?_⟩
    have hm := Mem.le_trans hm hle3
    have hb1 := hb1.mono hle3
    have r1 := r1.mono hle3
    refine WO_seg 1 [(6, .int .i64 y2)] (by kernel_rfl) (by kernel_rfl) ?_
    refine WO_end rfl ?_
    refine X_then ?_
    refine W_seq ?_
    refine W_region ?_
    refine WO_seg 6 [(4, .int .i64 (if 0 > y2 then 0 else y2)), (5, .bool (decide (y2 ≥ 0)))] (by kernel_rfl) (by kernel_rfl) ?_
    refine WO_end rfl ?_
    refine X_then ?_
    refine W_ret ?_
    obtain rfl := Option.some.inj hr
    refine X_ret [.tmp 4, .tmp 5] [.int .i64 (if 0 > y2 then 0 else y2), .bool (decide (y2 ≥ 0))] rfl (ResAll.cons (ResAt.tmp (by kernel_rfl)) (ResAll.cons (ResAt.tmp (by kernel_rfl)) ResAll.nil)) ?_
    exact ⟨m3, rfl, hm, st⟩

def testgateref13_find_L1 (N : Nat) (p0 : List ByteArray) (p1 : ByteArray) (s1 : Int) : Option ((Int) ⊕ ((Unit) ⊕ (Int))) :=
  if (decide (s1 < (List.length p0 : Int))) = true then ((idx p0 s1).bind fun x1 => if (x1.toList == p1.toList) = true then (some (.inr (.inr (s1)))) else (some (.inl (IntKind.wrap .i64 (s1 + 1))))) else (some (.inr (.inl ())))

def testgateref13_find (N : Nat) (p0 : List ByteArray) (p1 : ByteArray) : Option (Int) :=
  (loopM (testgateref13_find_L1 N p0 p1) N 0).bind fun out1 => (match out1 with | .inl o1 => some (-1) | .inr (z) => some z)

set_option maxHeartbeats 4000000 in
set_option maxRecDepth 100000 in
theorem testgateref13_find_ok {N : Nat} {m : Mem} {own : List Piece} {w : World} {p0 : List ByteArray} {p1 : ByteArray} {a1 : Option Addr} {c1 : Nat} {r : Int} (st : St m (own) w) (r1 : RepS cStr m a1 c1 p0) (hr : testgateref13_find N p0 p1 = some r) : Calls Go.Proofs.Try.prog 65 #[.agg #[.slice a1 (List.length p0) c1], .string p1] w fun e w' => ∃ (m' : Mem), e = .returned (.int .i64 r) ∧ m.le m' ∧ St m' (own) w' := by
  unfold testgateref13_find at hr
  have hm := m.le_refl
  refine W_calls Go.Proofs.Try.func65 rfl Go.Proofs.Try.ntmps65 [(0, .agg #[.slice a1 (List.length p0) c1]), (1, .string p1)] (by kernel_rfl) rfl ?_
  refine W_seq ?_
  refine W_region ?_
  refine WO_one rfl (One_box (d := 2) (e := 24) (x := (.tmp 0)) (.agg #[.slice a1 (List.length p0) c1]) (by kernel_rfl) rfl (by kernel_rfl) st ?_)
  clear st
  intro b1 m1 w1 hle1 st hb1
  have hm := Mem.le_trans hm hle1
  have r1 := r1.mono hle1
  refine WO_seg 1 [] (by kernel_rfl) (by kernel_rfl) ?_
  refine WO_end rfl ?_
  refine X_then ?_
  refine W_seq ?_
  refine W_seq ?_
  refine W_region ?_
  refine WO_seg 1 [(7, .pointer (some ⟨b1, 0, none⟩))] (by kernel_rfl) (by kernel_rfl) ?_
  refine WO_one rfl (One_load_row (d := 8) (t := 22) (x := (.tmp 7)) (.slice a1 (List.length p0) c1) (by kernel_rfl) rfl (show evL _ _ = some (.pointer (some ⟨b1, 0, none⟩)) from (by kernel_rfl)) st hb1 (by kernel_rfl) ?_)
  refine WO_seg 2 [(9, .int .i64 (List.length p0 : Int)), (10, .int .i64 0)] (by kernel_rfl) (by kernel_rfl) ?_
  refine WO_end rfl ?_
  refine X_then ?_
  refine W_block ?_
  replace hr := bindS hr
  obtain ⟨out1, hr, hrKu1⟩ := hr
  refine W_cut (.exit 0) (fun L' w' => ∃ (o1 : Unit) (m2 : Mem), (.inl o1) = out1 ∧ L' = [] ∧ m.le m2 ∧ St m2 (own) w') ?_ ?_
  · clear hr st
    rintro _ w2 ⟨o1, m2, rfl, rfl, hm, st⟩
    have hr := hrKu1
    clear hrKu1
    dsimp only at hr
    refine X_block_eq ?_
    refine X_then ?_
    refine W_seq ?_
    refine W_region ?_
    refine WO_seg 1 [(4, .int .i64 (-1))] (by kernel_rfl) (by kernel_rfl) ?_
    refine WO_end rfl ?_
    refine X_then ?_
    refine W_ret ?_
    obtain rfl := Option.some.inj hr
    refine X_ret [.tmp 4] [.int .i64 (-1)] rfl (ResAll.cons (ResAt.tmp (by kernel_rfl)) ResAll.nil) ?_
    exact ⟨m2, rfl, hm, st⟩
  intro K0_u1
  refine W_env _ (by kernel_rfl) (W_loop (fun k1 L' w' => ∃ (s1 : Int) (m3 : Mem), loopM (testgateref13_find_L1 N p0 p1) k1 s1 = some out1 ∧ L' = [(1, .string p1), (8, .slice a1 (List.length p0) c1), (9, .int .i64 (List.length p0 : Int)), (10, .int .i64 s1)] ∧ m.le m3 ∧ St m3 (own) w' ∧ RepS cStr m3 a1 c1 p0) N ⟨0, m1, hr, rfl, hm, st, r1⟩ ?_)
  clear st hr
  rintro k1 _ w3 ⟨s1, m3, hL, rfl, hm, st, r1⟩
  rcases k1 with _ | k1
  · exact loopM_zero hL
  · obtain ⟨qu1, hr, hSu1, hBu1⟩ := loopM_succ hL
    clear hL
    unfold testgateref13_find_L1 at hr
    refine W_seq ?_
    refine W_region ?_
    refine WO_seg 1 [(11, .bool (decide (s1 < (List.length p0 : Int))))] (by kernel_rfl) (by kernel_rfl) ?_
    refine WO_end rfl ?_
    refine X_then ?_
    refine W_seq ?_
    refine W_cond (decide (s1 < (List.length p0 : Int))) (by kernel_rfl) ?_ ?_
    · intro hc
      rw [if_pos hc] at hr
      refine W_skip ?_
      refine X_then ?_
      refine W_seq ?_
      refine W_block ?_
      refine W_seq ?_
      refine W_region ?_
      refine WO_seg 1 [(12, .int .i64 s1)] (by kernel_rfl) (by kernel_rfl) ?_
      replace hr := bindS hr
      obtain ⟨x1, hx1, hr⟩ := hr
      refine WO_one rfl (One_index (d := 13) (t := 22) (e := 9) (x := (.tmp 8)) (y := (.tmp 10)) cStr (by kernel_rfl) rfl (show evL _ _ = some (.slice a1 (List.length p0) c1) from (by kernel_rfl)) (show evL _ _ = some (.int .i64 s1) from (by kernel_rfl)) (by kernel_rfl) r1 hx1 ?_)
      rintro b2 f1 cs1 rfl hq1
      refine WO_one rfl (One_load_row (d := 14) (t := 9) (x := (.tmp 13)) (.string x1) (by kernel_rfl) rfl (show evL _ _ = some (.pointer (some ⟨b2, f1, none⟩)) from (by kernel_rfl)) st hq1 (by kernel_rfl) ?_)
      refine WO_seg 2 [(5, .int .i64 s1), (6, .string x1)] (by kernel_rfl) (by kernel_rfl) ?_
      refine WO_end rfl ?_
      refine X_then ?_
      refine W_seq ?_
      refine W_region ?_
      refine WO_seg 3 [(17, .bool (x1.toList == p1.toList))] (by kernel_rfl) (by kernel_rfl) ?_
      refine WO_end rfl ?_
      refine X_then ?_
      refine W_cond (x1.toList == p1.toList) (by kernel_rfl) ?_ ?_
      · intro hc
        rw [if_pos hc] at hr
        refine W_seq ?_
        refine W_region ?_
        refine WO_seg 2 [(4, .int .i64 s1)] (by kernel_rfl) (by kernel_rfl) ?_
        refine WO_end rfl ?_
        refine X_then ?_
        refine W_ret ?_
        refine X_block_ret ?_
        refine X_then_ret ?_
        obtain rfl := Option.some.inj hr
        have ho := hBu1 _ rfl
        subst ho
        have hr := hrKu1
        dsimp only at hr
        refine X_then_ret ?_
        refine X_block_ret ?_
        refine X_then_ret ?_
        obtain rfl := Option.some.inj hr
        refine X_ret [.tmp 4] [.int .i64 s1] rfl (ResAll.cons (ResAt.tmp (by kernel_rfl)) ResAll.nil) ?_
        exact ⟨m3, rfl, hm, st⟩
      · intro hc
        rw [if_neg (not_true hc)] at hr
        refine W_skip ?_
        refine X_block ?_
        refine X_then ?_
        refine W_region ?_
        refine WO_seg 2 [(10, .int .i64 (IntKind.wrap .i64 (s1 + 1)))] (by kernel_rfl) (by kernel_rfl) ?_
        refine WO_end rfl ?_
        obtain rfl := Option.some.inj hr
        have hL := hSu1 _ rfl
        exact X_env _ (by kernel_rfl) (X_round k1 (Nat.lt_succ_self _) ⟨IntKind.wrap .i64 (s1 + 1), m3, hL, rfl, hm, st, r1⟩)
    · intro hc
      rw [if_neg (not_true hc)] at hr
      refine W_exit ?_
      refine X_then_exit ?_
      obtain rfl := Option.some.inj hr
      have ho := hBu1 _ rfl
      refine X_then_exit ?_
      exact X_env _ (by kernel_rfl) (K0_u1 _ _ ⟨(), m3, ho, rfl, hm, st⟩)

def testgateref13_Find (N : Nat) (p0 : List ByteArray) (p1 : ByteArray) : Option (Int × Bool) :=
  (testgateref13_find N p0 p1).bind fun y1 => ((testgateref13_Check N p0).bind fun y2 => if (y2 == 0) = true then (some (decide (y1 ≥ 0))) else (some false) : Option (Bool)).bind fun o1 => if o1 = true then (some (y1, true)) else (some (0, false))

set_option maxHeartbeats 4000000 in
set_option maxRecDepth 100000 in
theorem testgateref13_Find_ok {N : Nat} {m : Mem} {own : List Piece} {w : World} {p0 : List ByteArray} {p1 : ByteArray} {a1 : Option Addr} {c1 : Nat} {r : Int × Bool} (st : St m (own) w) (r1 : RepS cStr m a1 c1 p0) (hr : testgateref13_Find N p0 p1 = some r) : Calls Go.Proofs.Try.prog 20 #[.agg #[.slice a1 (List.length p0) c1], .string p1] w fun e w' => ∃ (m' : Mem), e = .returned (.tuple #[.int .i64 r.1, .bool r.2]) ∧ m.le m' ∧ St m' (own) w' := by
  unfold testgateref13_Find at hr
  have hm := m.le_refl
  refine W_calls Go.Proofs.Try.func20 rfl Go.Proofs.Try.ntmps20 [(0, .agg #[.slice a1 (List.length p0) c1]), (1, .string p1)] (by kernel_rfl) rfl ?_
  refine W_seq ?_
  refine W_region ?_
  refine WO_one rfl (One_box (d := 2) (e := 24) (x := (.tmp 0)) (.agg #[.slice a1 (List.length p0) c1]) (by kernel_rfl) rfl (by kernel_rfl) st ?_)
  clear st
  intro b1 m1 w1 hle1 st hb1
  have hm := Mem.le_trans hm hle1
  have r1 := r1.mono hle1
  refine WO_seg 2 [] (by kernel_rfl) (by kernel_rfl) ?_
  refine WO_end rfl ?_
  refine X_then ?_
  refine W_seq ?_
  refine W_seq ?_
  refine W_region ?_
  refine WO_one rfl (One_load_row (d := 7) (t := 24) (x := (.tmp 2)) (.agg #[.slice a1 (List.length p0) c1]) (by kernel_rfl) rfl (show evL _ _ = some (.pointer (some ⟨b1, 0, none⟩)) from (by kernel_rfl)) st hb1 (by kernel_rfl) ?_)
  refine WO_seg 1 [(8, .string p1)] (by kernel_rfl) (by kernel_rfl) ?_
  replace hr := bindS hr
  obtain ⟨y1, hx1, hr⟩ := hr
  refine WO_one rfl (One_fn 9 65 #[.agg #[.slice a1 (List.length p0) c1], .string p1] (by kernel_rfl) rfl ?_)
  refine (testgateref13_find_ok st r1 hx1).mono ?_
  clear st
  rintro _ w2 ⟨m2, rfl, hle2, st⟩
  refine ⟨_, rfl, ?_⟩
  have hm := Mem.le_trans hm hle2
  have hb1 := hb1.mono hle2
  have r1 := r1.mono hle2
  refine WO_seg 1 [(6, .int .i64 y1)] (by kernel_rfl) (by kernel_rfl) ?_
  refine WO_end rfl ?_
  refine X_then ?_
  refine W_seq ?_
  refine W_region ?_
  replace hr := bindS hr
  obtain ⟨o1, hr, hrK⟩ := hr
  refine WO_cut (j := 7) (fun L' w' => ∃ (m3 : Mem), L' = [(6, .int .i64 y1), (16, .bool o1)] ∧ m.le m3 ∧ St m3 (own) w') ?_ ?_
  · clear hr st
    have hr := hrK
    clear hrK
    rintro _ w3 ⟨m3, rfl, hm, st⟩
    refine WO_end rfl ?_
    refine X_then ?_
    refine W_cond o1 (by kernel_rfl) ?_ ?_
    · intro hc
      rw [if_pos hc] at hr
      refine W_seq ?_
      refine W_region ?_
      refine WO_seg 3 [(4, .int .i64 y1), (5, .bool true)] (by kernel_rfl) (by kernel_rfl) ?_
      refine WO_end rfl ?_
      refine X_then ?_
      refine W_ret ?_
      refine X_then_ret ?_
      obtain rfl := Option.some.inj hr
      refine X_ret [.tmp 4, .tmp 5] [.int .i64 y1, .bool true] rfl (ResAll.cons (ResAt.tmp (by kernel_rfl)) (ResAll.cons (ResAt.tmp (by kernel_rfl)) ResAll.nil)) ?_
      exact ⟨m3, rfl, hm, st⟩
    · intro hc
      rw [if_neg (not_true hc)] at hr
      refine W_skip ?_
      refine X_then ?_
      refine W_seq ?_
      refine W_region ?_
      refine WO_seg 2 [(4, .int .i64 0), (5, .bool false)] (by kernel_rfl) (by kernel_rfl) ?_
      refine WO_end rfl ?_
      refine X_then ?_
      refine W_ret ?_
      obtain rfl := Option.some.inj hr
      refine X_ret [.tmp 4, .tmp 5] [.int .i64 0, .bool false] rfl (ResAll.cons (ResAt.tmp (by kernel_rfl)) (ResAll.cons (ResAt.tmp (by kernel_rfl)) ResAll.nil)) ?_
      exact ⟨m3, rfl, hm, st⟩
  · intro K
    clear hrK
    refine WO_one rfl (One_load_row (d := 10) (t := 24) (x := (.tmp 2)) (.agg #[.slice a1 (List.length p0) c1]) (by kernel_rfl) rfl (show evL _ _ = some (.pointer (some ⟨b1, 0, none⟩)) from (by kernel_rfl)) st hb1 (by kernel_rfl) ?_)
    replace hr := bindS hr
    obtain ⟨y2, hx2, hr⟩ := hr
    refine WO_one rfl (One_fn 11 18 #[.agg #[.slice a1 (List.length p0) c1]] (by kernel_rfl) rfl ?_)
    refine (testgateref13_Check_ok st r1 hx2).mono ?_
    clear st
    rintro _ w4 ⟨m4, rfl, hle3, st⟩
    refine ⟨_, rfl, ?_⟩
    have hm := Mem.le_trans hm hle3
    have hb1 := hb1.mono hle3
    have r1 := r1.mono hle3
    refine WO_seg 2 [(13, .bool (y2 == 0))] (by kernel_rfl) (by kernel_rfl) ?_
    rcases bcases (y2 == 0) with hc | hc
    · rw [if_pos hc] at hr
      refine WO_fact (t := 13) (b := true) (y2 == 0) (by kernel_rfl) hc ?_
      refine WO_seg 3 [(16, .bool (decide (y1 ≥ 0)))] (by kernel_rfl) (by kernel_rfl) ?_
      obtain rfl := Option.some.inj hr
      exact WO_env _ (by kernel_rfl) (K _ _ ⟨m4, rfl, hm, st⟩)
    · rw [if_neg (not_true hc)] at hr
      refine WO_fact (t := 13) (b := false) (y2 == 0) (by kernel_rfl) hc ?_
      refine WO_seg 3 [(16, .bool false)] (by kernel_rfl) (by kernel_rfl) ?_
      obtain rfl := Option.some.inj hr
      exact WO_env _ (by kernel_rfl) (K _ _ ⟨m4, rfl, hm, st⟩)

def testgateref13_Put (N : Nat) (p0 : List ByteArray) (p1 : ByteArray) : Option (List ByteArray × Int × Int) :=
  (testgateref13_Check N p0).bind fun y1 => if (y1 != 0) = true then (some (([] : List (ByteArray)), 0, y1)) else ((appendS 16 ([] : List (ByteArray)) p0).bind fun l1 => (testgateref13_find N p0 p1).bind fun y2 => if (decide (y2 ≥ 0)) = true then (some (l1, y2, 0)) else (if ((List.length p0 : Int) == 4096) = true then (some (([] : List (ByteArray)), 0, 2)) else ((appendS 16 l1 ([p1])).bind fun l2 => some (l2, (List.length p0 : Int), 0))))

set_option maxHeartbeats 4000000 in
set_option maxRecDepth 100000 in
theorem testgateref13_Put_ok {N : Nat} {m : Mem} {own : List Piece} {w : World} {p0 : List ByteArray} {p1 : ByteArray} {a1 : Option Addr} {c1 : Nat} {r : List ByteArray × Int × Int} (st : St m (own) w) (r1 : RepS cStr m a1 c1 p0) (hr : testgateref13_Put N p0 p1 = some r) : Calls Go.Proofs.Try.prog 21 #[.agg #[.slice a1 (List.length p0) c1], .string p1] w fun e w' => ∃ (ra1 : Option Addr) (rc1 : Nat) (m' : Mem), e = .returned (.tuple #[.agg #[.slice ra1 (List.length r.1) rc1], .int .i64 r.2.1, .int .i64 r.2.2]) ∧ m.le m' ∧ St m' (.room ra1 (List.length r.1) rc1 9 1 :: own) w' ∧ RepS cStr m' ra1 rc1 r.1 := by
  unfold testgateref13_Put at hr
  have hm := m.le_refl
  refine W_calls Go.Proofs.Try.func21 rfl Go.Proofs.Try.ntmps21 [(0, .agg #[.slice a1 (List.length p0) c1]), (1, .string p1)] (by kernel_rfl) rfl ?_
  refine W_seq ?_
  refine W_region ?_
  refine WO_one rfl (One_box (d := 2) (e := 24) (x := (.tmp 0)) (.agg #[.slice a1 (List.length p0) c1]) (by kernel_rfl) rfl (by kernel_rfl) st ?_)
  clear st
  intro b1 m1 w1 hle1 st hb1
  have hm := Mem.le_trans hm hle1
  have r1 := r1.mono hle1
  refine WO_one rfl (One_alloc (d := 4) (e := 24) (.agg #[.slice none 0 0]) (by kernel_rfl) rfl (by kernel_rfl) st ?_)
  clear st
  intro b2 w2 st
  refine WO_seg 2 [] (by kernel_rfl) (by kernel_rfl) ?_
  refine WO_end rfl ?_
  refine X_then ?_
  refine W_seq ?_
  refine W_seq ?_
  refine W_region ?_
  refine WO_one rfl (One_load_row (d := 10) (t := 24) (x := (.tmp 2)) (.agg #[.slice a1 (List.length p0) c1]) (by kernel_rfl) rfl (show evL _ _ = some (.pointer (some ⟨b1, 0, none⟩)) from (by kernel_rfl)) st hb1 (by kernel_rfl) ?_)
  replace hr := bindS hr
  obtain ⟨y1, hx1, hr⟩ := hr
  refine WO_one rfl (One_fn 11 18 #[.agg #[.slice a1 (List.length p0) c1]] (by kernel_rfl) rfl ?_)
  refine (testgateref13_Check_ok st r1 hx1).mono ?_
  clear st
  rintro _ w3 ⟨m2, rfl, hle2, st⟩
  refine ⟨_, rfl, ?_⟩
  have hm := Mem.le_trans hm hle2
  have hb1 := hb1.mono hle2
  have r1 := r1.mono hle2
  refine WO_seg 1 [(7, .int .i64 y1)] (by kernel_rfl) (by kernel_rfl) ?_
  refine WO_end rfl ?_
  refine X_then ?_
  refine W_seq ?_
  refine W_region ?_
  refine WO_seg 2 [(13, .bool (y1 != 0))] (by kernel_rfl) (by kernel_rfl) ?_
  refine WO_end rfl ?_
  refine X_then ?_
  refine W_cond (y1 != 0) (by kernel_rfl) ?_ ?_
  · intro hc
    rw [if_pos hc] at hr
    refine W_seq ?_
    refine W_region ?_
    refine WO_seg 2 [(14, .agg #[.slice none (List.length ([] : List (ByteArray))) 0]), (15, .int .i64 y1)] (by kernel_rfl) (by kernel_rfl) ?_
    refine WO_one rfl (One_store (t := 24) (x := (.tmp 4)) (y := (.tmp 14)) (v := .agg #[.slice none (List.length ([] : List (ByteArray))) 0]) (c' := #[.slice none (List.length ([] : List (ByteArray))) 0]) (by kernel_rfl) (show evL _ _ = some (.pointer (some ⟨b2, 0, none⟩)) from (by kernel_rfl)) (show evL _ _ = some (.agg #[.slice none (List.length ([] : List (ByteArray))) 0]) from (by kernel_rfl)) st (by kernel_rfl) (by kernel_rfl) ?_)
    clear st
    intro w4 st
    refine WO_seg 2 [(5, .int .i64 0), (6, .int .i64 y1)] (by kernel_rfl) (by kernel_rfl) ?_
    refine WO_end rfl ?_
    refine X_then ?_
    refine W_ret ?_
    refine X_then_ret ?_
    obtain rfl := Option.some.inj hr
    refine X_ret [.cell 4 24, .tmp 5, .tmp 6] [.agg #[.slice none (List.length ([] : List (ByteArray))) 0], .int .i64 0, .int .i64 y1] rfl (ResAll.cons (ResAt.blk (v := .agg #[.slice none (List.length ([] : List (ByteArray))) 0]) (o := 0) (by kernel_rfl) st.head (by kernel_rfl)) (ResAll.cons (ResAt.tmp (by kernel_rfl)) (ResAll.cons (ResAt.tmp (by kernel_rfl)) ResAll.nil))) ?_
    have st := st.nilroom 9 1
    have st := st.front1
    have st := st.tail
    exact ⟨none, 0, m2, rfl, hm, st, (RepS.nil _ _)⟩
  · intro hc
    rw [if_neg (not_true hc)] at hr
    refine W_skip ?_
    refine X_then ?_
    refine W_seq ?_
    refine W_region ?_
    refine WO_seg 1 [(16, .pointer (some ⟨b1, 0, none⟩))] (by kernel_rfl) (by kernel_rfl) ?_
    refine WO_one rfl (One_load_row (d := 17) (t := 22) (x := (.tmp 16)) (.slice a1 (List.length p0) c1) (by kernel_rfl) rfl (show evL _ _ = some (.pointer (some ⟨b1, 0, none⟩)) from (by kernel_rfl)) st hb1 (by kernel_rfl) ?_)
    have st := st.nilroom 9 1
    replace hr := bindS hr
    obtain ⟨l1, hx2, hr⟩ := hr
    refine WO_one rfl (One_append (d := 18) (t := 22) (u := 22) (e := 9) (by_ := 16) (x := (.const (.slice none 0 0))) (y := (.tmp 17)) cStr (by kernel_rfl) rfl (show evL _ _ = some (.slice none (List.length ([] : List (ByteArray))) 0) from (by kernel_rfl)) (show evL _ _ = some (.slice a1 (List.length p0) c1) from (by kernel_rfl)) st (by kernel_rfl) (.inl (by kernel_rfl)) (RepS.nil _ _) r1.src hx2 ?_)
    clear st
    intro a2 c2 m3 w5 hle3 st r2
    have hm := Mem.le_trans hm hle3
    have hb1 := hb1.mono hle3
    have r1 := r1.mono hle3
    refine WO_seg 1 [(19, .agg #[.slice a2 (List.length l1) c2])] (by kernel_rfl) (by kernel_rfl) ?_
    refine WO_one rfl (One_alloc (d := 8) (e := 24) (.agg #[.slice none 0 0]) (by kernel_rfl) rfl (by kernel_rfl) st ?_)
    clear st
    intro b3 w6 st
    refine WO_one rfl (One_store (t := 24) (x := (.tmp 8)) (y := (.tmp 19)) (v := .agg #[.slice a2 (List.length l1) c2]) (c' := #[.slice a2 (List.length l1) c2]) (by kernel_rfl) (show evL _ _ = some (.pointer (some ⟨b3, 0, none⟩)) from (by kernel_rfl)) (show evL _ _ = some (.agg #[.slice a2 (List.length l1) c2]) from (by kernel_rfl)) st (by kernel_rfl) (by kernel_rfl) ?_)
    clear st
    intro w7 st
    refine WO_end rfl ?_
    refine X_then ?_
    refine W_seq ?_
    refine W_seq ?_
    refine W_region ?_
    refine WO_one rfl (One_load_row (d := 20) (t := 24) (x := (.tmp 2)) (.agg #[.slice a1 (List.length p0) c1]) (by kernel_rfl) rfl (show evL _ _ = some (.pointer (some ⟨b1, 0, none⟩)) from (by kernel_rfl)) st hb1 (by kernel_rfl) ?_)
    refine WO_seg 1 [(21, .string p1)] (by kernel_rfl) (by kernel_rfl) ?_
    replace hr := bindS hr
    obtain ⟨y2, hx3, hr⟩ := hr
    refine WO_one rfl (One_fn 22 65 #[.agg #[.slice a1 (List.length p0) c1], .string p1] (by kernel_rfl) rfl ?_)
    refine (testgateref13_find_ok st r1 hx3).mono ?_
    clear st
    rintro _ w8 ⟨m4, rfl, hle4, st⟩
    refine ⟨_, rfl, ?_⟩
    have hm := Mem.le_trans hm hle4
    have hb1 := hb1.mono hle4
    have r1 := r1.mono hle4
    have r2 := r2.mono hle4
    refine WO_seg 1 [(9, .int .i64 y2)] (by kernel_rfl) (by kernel_rfl) ?_
    refine WO_end rfl ?_
    refine X_then ?_
    refine W_seq ?_
    refine W_region ?_
    refine WO_seg 2 [(24, .bool (decide (y2 ≥ 0)))] (by kernel_rfl) (by kernel_rfl) ?_
    refine WO_end rfl ?_
    refine X_then ?_
    refine W_cond (decide (y2 ≥ 0)) (by kernel_rfl) ?_ ?_
    · intro hc
      rw [if_pos hc] at hr
      refine W_seq ?_
      refine W_region ?_
      refine WO_one rfl (One_load_own (d := 25) (t := 24) (x := (.tmp 8)) (.agg #[.slice a2 (List.length l1) c2]) (by kernel_rfl) rfl (show evL _ _ = some (.pointer (some ⟨b3, 0, none⟩)) from (by kernel_rfl)) st.head (by kernel_rfl) ?_)
      refine WO_seg 1 [(26, .int .i64 y2)] (by kernel_rfl) (by kernel_rfl) ?_
      have st := st.front2
      refine WO_one rfl (One_store (t := 24) (x := (.tmp 4)) (y := (.tmp 25)) (v := .agg #[.slice a2 (List.length l1) c2]) (c' := #[.slice a2 (List.length l1) c2]) (by kernel_rfl) (show evL _ _ = some (.pointer (some ⟨b2, 0, none⟩)) from (by kernel_rfl)) (show evL _ _ = some (.agg #[.slice a2 (List.length l1) c2]) from (by kernel_rfl)) st (by kernel_rfl) (by kernel_rfl) ?_)
      clear st
      intro w9 st
      refine WO_seg 2 [(5, .int .i64 y2), (6, .int .i64 0)] (by kernel_rfl) (by kernel_rfl) ?_
      refine WO_end rfl ?_
      refine X_then ?_
      refine W_ret ?_
      refine X_then_ret ?_
      obtain rfl := Option.some.inj hr
      refine X_ret [.cell 4 24, .tmp 5, .tmp 6] [.agg #[.slice a2 (List.length l1) c2], .int .i64 y2, .int .i64 0] rfl (ResAll.cons (ResAt.blk (v := .agg #[.slice a2 (List.length l1) c2]) (o := 0) (by kernel_rfl) st.head (by kernel_rfl)) (ResAll.cons (ResAt.tmp (by kernel_rfl)) (ResAll.cons (ResAt.tmp (by kernel_rfl)) ResAll.nil))) ?_
      have st := st.tail
      have st := st.tail
      exact ⟨a2, c2, m4, rfl, hm, st, r2⟩
    · intro hc
      rw [if_neg (not_true hc)] at hr
      refine W_skip ?_
      refine X_then ?_
      refine W_seq ?_
      refine W_seq ?_
      refine W_region ?_
      refine WO_seg 1 [(27, .pointer (some ⟨b1, 0, none⟩))] (by kernel_rfl) (by kernel_rfl) ?_
      refine WO_one rfl (One_load_row (d := 28) (t := 22) (x := (.tmp 27)) (.slice a1 (List.length p0) c1) (by kernel_rfl) rfl (show evL _ _ = some (.pointer (some ⟨b1, 0, none⟩)) from (by kernel_rfl)) st hb1 (by kernel_rfl) ?_)
      refine WO_seg 2 [(30, .bool ((List.length p0 : Int) == 4096))] (by kernel_rfl) (by kernel_rfl) ?_
      refine WO_end rfl ?_
      refine X_then ?_
      refine W_cond ((List.length p0 : Int) == 4096) (by kernel_rfl) ?_ ?_
      · intro hc
        rw [if_pos hc] at hr
        refine W_seq ?_
        refine W_region ?_
        refine WO_seg 1 [(31, .agg #[.slice none (List.length ([] : List (ByteArray))) 0])] (by kernel_rfl) (by kernel_rfl) ?_
        have st := st.front2
        refine WO_one rfl (One_store (t := 24) (x := (.tmp 4)) (y := (.tmp 31)) (v := .agg #[.slice none (List.length ([] : List (ByteArray))) 0]) (c' := #[.slice none (List.length ([] : List (ByteArray))) 0]) (by kernel_rfl) (show evL _ _ = some (.pointer (some ⟨b2, 0, none⟩)) from (by kernel_rfl)) (show evL _ _ = some (.agg #[.slice none (List.length ([] : List (ByteArray))) 0]) from (by kernel_rfl)) st (by kernel_rfl) (by kernel_rfl) ?_)
        clear st
        intro w10 st
        refine WO_seg 2 [(5, .int .i64 0), (6, .int .i64 2)] (by kernel_rfl) (by kernel_rfl) ?_
        refine WO_end rfl ?_
        refine X_then ?_
        refine W_ret ?_
        refine X_then_ret ?_
        obtain rfl := Option.some.inj hr
        refine X_ret [.cell 4 24, .tmp 5, .tmp 6] [.agg #[.slice none (List.length ([] : List (ByteArray))) 0], .int .i64 0, .int .i64 2] rfl (ResAll.cons (ResAt.blk (v := .agg #[.slice none (List.length ([] : List (ByteArray))) 0]) (o := 0) (by kernel_rfl) st.head (by kernel_rfl)) (ResAll.cons (ResAt.tmp (by kernel_rfl)) (ResAll.cons (ResAt.tmp (by kernel_rfl)) ResAll.nil))) ?_
        have st := st.nilroom 9 1
        have st := st.front1
        have st := st.tail
        have st := st.front1
        have st := st.tail
        have st := st.front1
        have st := st.tail
        exact ⟨none, 0, m4, rfl, hm, st, (RepS.nil _ _)⟩
      · intro hc
        rw [if_neg (not_true hc)] at hr
        refine W_skip ?_
        refine X_then ?_
        refine W_seq ?_
        refine W_region ?_
        refine WO_seg 1 [(32, .pointer (some ⟨b3, 0, none⟩))] (by kernel_rfl) (by kernel_rfl) ?_
        refine WO_one rfl (One_load_own (d := 33) (t := 22) (x := (.tmp 32)) (.slice a2 (List.length l1) c2) (by kernel_rfl) rfl (show evL _ _ = some (.pointer (some ⟨b3, 0, none⟩)) from (by kernel_rfl)) st.head (by kernel_rfl) ?_)
        refine WO_seg 1 [(34, .string p1)] (by kernel_rfl) (by kernel_rfl) ?_
        refine WO_one rfl (One_buildSlice (d := 35) (t := 22) (e := 9) (len := 1) (parts := #[(0, (.tmp 34))]) cStr (xs := [p1]) [.string p1] (by kernel_rfl) rfl (fun _ => buildCells_run (by kernel_rfl) _) rfl rfl st ⟨[.string p1], _, rfl, rfl, rfl⟩ ?_)
        clear st
        intro b4 m5 w11 hle5 st r3
        have hm := Mem.le_trans hm hle5
        have hb1 := hb1.mono hle5
        have r1 := r1.mono hle5
        have r2 := r2.mono hle5
        have st := st.front2
        replace hr := bindS hr
        obtain ⟨l2, hx4, hr⟩ := hr
        refine WO_one rfl (One_append (d := 36) (t := 22) (u := 22) (e := 9) (by_ := 16) (x := (.tmp 33)) (y := (.tmp 35)) cStr (by kernel_rfl) rfl (show evL _ _ = some (.slice a2 (List.length l1) c2) from (by kernel_rfl)) (show evL _ _ = some (.slice (some ⟨b4, 0, none⟩) (List.length ([p1])) 1) from (by kernel_rfl)) st (by kernel_rfl) (.inl (by kernel_rfl)) r2 r3.src hx4 ?_)
        clear st
        intro a3 c3 m6 w12 hle6 st r4
        have hm := Mem.le_trans hm hle6
        have hb1 := hb1.mono hle6
        have r1 := r1.mono hle6
        have r2 := r2.mono hle6
        have r3 := r3.mono hle6
        refine WO_seg 1 [(37, .pointer (some ⟨b3, 0, none⟩))] (by kernel_rfl) (by kernel_rfl) ?_
        have st := st.front2
        refine WO_one rfl (One_store (t := 22) (x := (.tmp 37)) (y := (.tmp 36)) (v := .slice a3 (List.length l2) c3) (c' := #[.slice a3 (List.length l2) c3]) (by kernel_rfl) (show evL _ _ = some (.pointer (some ⟨b3, 0, none⟩)) from (by kernel_rfl)) (show evL _ _ = some (.slice a3 (List.length l2) c3) from (by kernel_rfl)) st (by kernel_rfl) (by kernel_rfl) ?_)
        clear st
        intro w13 st
        refine WO_end rfl ?_
        have st := st.front2
        have st := st.tail
        refine X_then ?_
        refine W_seq ?_
        refine W_draw [(7, fun w' => Inv m6 w' ∧ Piece.holds m6 w' (.blk b3 (.cells #[.slice a3 (List.length l2) c3] 24 (0, 0))) ∧ True)] (by kernel_rfl) st ?_
        clear st
        intro w14 _ st
        have hmS := m6.le_refl
        refine ⟨⟨.inr ⟨Inv.anti st.inv hmS, Piece.holds_anti st.head hmS, trivial⟩, trivial⟩, ?_⟩
        refine WA_load_own (t := 24) (x := (.tmp 8)) 0 38 (.agg #[.slice a3 (List.length l2) c3]) (by kernel_rfl) rfl (by kernel_rfl) (.head _) (QP_then QP_body) (fun _ h => h.2.1) (show evL _ _ = some (.pointer (some ⟨b3, 0, none⟩)) from (by kernel_rfl)) (by kernel_rfl) ?_
        refine WA_pure 1 39 (.pointer (some ⟨b1, 0, none⟩)) (by kernel_rfl) rfl (by kernel_rfl) (.head _) (QP_then QP_body) ?_
        refine WA_load_row (t := 22) (x := (.tmp 39)) 2 40 (.slice a1 (List.length p0) c1) (by kernel_rfl) rfl (by kernel_rfl) (.head _) (QP_then QP_body) (fun _ h => h.1) (show evL _ _ = some (.pointer (some ⟨b1, 0, none⟩)) from (by kernel_rfl)) hb1 (by kernel_rfl) ?_
        refine WA_pure 3 41 (.int .i64 (List.length p0 : Int)) (by kernel_rfl) rfl (by kernel_rfl) (.head _) (QP_then QP_body) ?_
        have st := st.front2
        refine WA_one 4 (by kernel_rfl) (One_store (t := 24) (x := (.tmp 4)) (y := (.tmp 38)) (v := .agg #[.slice a3 (List.length l2) c3]) (c' := #[.slice a3 (List.length l2) c3]) (by kernel_rfl) (show evL _ _ = some (.pointer (some ⟨b2, 0, none⟩)) from (by kernel_rfl)) (show evL _ _ = some (.agg #[.slice a3 (List.length l2) c3]) from (by kernel_rfl)) st (by kernel_rfl) (by kernel_rfl) ?_)
        clear st
        intro w15 st
        refine ⟨⟨.inr ⟨Inv.anti st.inv hmS, Piece.holds_anti st.tail.head hmS, trivial⟩, trivial⟩, ?_⟩
        refine WA_pure 5 5 (.int .i64 (List.length p0 : Int)) (by kernel_rfl) rfl (by kernel_rfl) (.head _) (QP_then QP_body) ?_
        refine WA_pure 6 6 (.int .i64 0) (by kernel_rfl) rfl (by kernel_rfl) (.head _) (QP_then QP_body) ?_
        refine WA_done (by kernel_rfl) ?_
        refine X_then ?_
        refine W_ret ?_
        obtain rfl := Option.some.inj hr
        refine X_ret [.cell 4 24, .tmp 5, .tmp 6] [.agg #[.slice a3 (List.length l2) c3], .int .i64 (List.length p0 : Int), .int .i64 0] rfl (ResAll.cons (ResAt.blk (v := .agg #[.slice a3 (List.length l2) c3]) (o := 0) (by kernel_rfl) st.head (by kernel_rfl)) (ResAll.cons (ResAt.tmp (by kernel_rfl)) (ResAll.cons (ResAt.tmp (by kernel_rfl)) ResAll.nil))) ?_
        have st := st.tail
        have st := st.tail
        exact ⟨a3, c3, m6, rfl, hm, st, r4⟩

def testgateref13_Get (N : Nat) (p0 : List ByteArray) (p1 : Int) : Option (ByteArray × Int) :=
  (testgateref13_Check N p0).bind fun y1 => if (y1 != 0) = true then (some ((⟨#[]⟩ : ByteArray), y1)) else ((if (decide (p1 < 0)) = true then (some true) else (some (decide (p1 ≥ (List.length p0 : Int)))) : Option (Bool)).bind fun o1 => if o1 = true then (some ((⟨#[]⟩ : ByteArray), 20)) else ((idx p0 p1).bind fun x1 => some (x1, 0)))

set_option maxHeartbeats 4000000 in
set_option maxRecDepth 100000 in
theorem testgateref13_Get_ok {N : Nat} {m : Mem} {own : List Piece} {w : World} {p0 : List ByteArray} {p1 : Int} {a1 : Option Addr} {c1 : Nat} {r : ByteArray × Int} (st : St m (own) w) (r1 : RepS cStr m a1 c1 p0) (hr : testgateref13_Get N p0 p1 = some r) : Calls Go.Proofs.Try.prog 24 #[.agg #[.slice a1 (List.length p0) c1], .int .i64 p1] w fun e w' => ∃ (m' : Mem), e = .returned (.tuple #[.string r.1, .int .i64 r.2]) ∧ m.le m' ∧ St m' (own) w' := by
  unfold testgateref13_Get at hr
  have hm := m.le_refl
  refine W_calls Go.Proofs.Try.func24 rfl Go.Proofs.Try.ntmps24 [(0, .agg #[.slice a1 (List.length p0) c1]), (1, .int .i64 p1)] (by kernel_rfl) rfl ?_
  refine W_seq ?_
  refine W_region ?_
  refine WO_one rfl (One_box (d := 2) (e := 24) (x := (.tmp 0)) (.agg #[.slice a1 (List.length p0) c1]) (by kernel_rfl) rfl (by kernel_rfl) st ?_)
  clear st
  intro b1 m1 w1 hle1 st hb1
  have hm := Mem.le_trans hm hle1
  have r1 := r1.mono hle1
  refine WO_seg 2 [] (by kernel_rfl) (by kernel_rfl) ?_
  refine WO_end rfl ?_
  refine X_then ?_
  refine W_seq ?_
  refine W_seq ?_
  refine W_region ?_
  refine WO_one rfl (One_load_row (d := 7) (t := 24) (x := (.tmp 2)) (.agg #[.slice a1 (List.length p0) c1]) (by kernel_rfl) rfl (show evL _ _ = some (.pointer (some ⟨b1, 0, none⟩)) from (by kernel_rfl)) st hb1 (by kernel_rfl) ?_)
  replace hr := bindS hr
  obtain ⟨y1, hx1, hr⟩ := hr
  refine WO_one rfl (One_fn 8 18 #[.agg #[.slice a1 (List.length p0) c1]] (by kernel_rfl) rfl ?_)
  refine (testgateref13_Check_ok st r1 hx1).mono ?_
  clear st
  rintro _ w2 ⟨m2, rfl, hle2, st⟩
  refine ⟨_, rfl, ?_⟩
  have hm := Mem.le_trans hm hle2
  have hb1 := hb1.mono hle2
  have r1 := r1.mono hle2
  refine WO_seg 1 [(6, .int .i64 y1)] (by kernel_rfl) (by kernel_rfl) ?_
  refine WO_end rfl ?_
  refine X_then ?_
  refine W_seq ?_
  refine W_region ?_
  refine WO_seg 2 [(10, .bool (y1 != 0))] (by kernel_rfl) (by kernel_rfl) ?_
  refine WO_end rfl ?_
  refine X_then ?_
  refine W_cond (y1 != 0) (by kernel_rfl) ?_ ?_
  · intro hc
    rw [if_pos hc] at hr
    refine W_seq ?_
    refine W_region ?_
    refine WO_seg 3 [(4, .string (⟨#[]⟩ : ByteArray)), (5, .int .i64 y1)] (by kernel_rfl) (by kernel_rfl) ?_
    refine WO_end rfl ?_
    refine X_then ?_
    refine W_ret ?_
    refine X_then_ret ?_
    obtain rfl := Option.some.inj hr
    refine X_ret [.tmp 4, .tmp 5] [.string (⟨#[]⟩ : ByteArray), .int .i64 y1] rfl (ResAll.cons (ResAt.tmp (by kernel_rfl)) (ResAll.cons (ResAt.tmp (by kernel_rfl)) ResAll.nil)) ?_
    exact ⟨m2, rfl, hm, st⟩
  · intro hc
    rw [if_neg (not_true hc)] at hr
    refine W_skip ?_
    refine X_then ?_
    refine W_seq ?_
    refine W_seq ?_
    refine W_region ?_
    replace hr := bindS hr
    obtain ⟨o1, hr, hrK⟩ := hr
    refine WO_cut (j := 9) (fun L' w' => ∃ (m3 : Mem), L' = [(1, .int .i64 p1), (2, .pointer (some ⟨b1, 0, none⟩)), (20, .bool o1)] ∧ m.le m3 ∧ St m3 (own) w' ∧ MRow m3 b1 0 [.slice a1 (List.length p0) c1] ∧ RepS cStr m3 a1 c1 p0) ?_ ?_
    · clear hr st
      have hr := hrK
      clear hrK
      rintro _ w3 ⟨m3, rfl, hm, st, hb1, r1⟩
      refine WO_end rfl ?_
      refine X_then ?_
      refine W_cond o1 (by kernel_rfl) ?_ ?_
      · intro hc
        rw [if_pos hc] at hr
        refine W_seq ?_
        refine W_region ?_
        refine WO_seg 2 [(4, .string (⟨#[]⟩ : ByteArray)), (5, .int .i64 20)] (by kernel_rfl) (by kernel_rfl) ?_
        refine WO_end rfl ?_
        refine X_then ?_
        refine W_ret ?_
        refine X_then_ret ?_
        obtain rfl := Option.some.inj hr
        refine X_ret [.tmp 4, .tmp 5] [.string (⟨#[]⟩ : ByteArray), .int .i64 20] rfl (ResAll.cons (ResAt.tmp (by kernel_rfl)) (ResAll.cons (ResAt.tmp (by kernel_rfl)) ResAll.nil)) ?_
        exact ⟨m3, rfl, hm, st⟩
      · intro hc
        rw [if_neg (not_true hc)] at hr
        refine W_skip ?_
        refine X_then ?_
        refine W_seq ?_
        refine W_region ?_
        refine WO_seg 1 [(21, .pointer (some ⟨b1, 0, none⟩))] (by kernel_rfl) (by kernel_rfl) ?_
        refine WO_one rfl (One_load_row (d := 22) (t := 22) (x := (.tmp 21)) (.slice a1 (List.length p0) c1) (by kernel_rfl) rfl (show evL _ _ = some (.pointer (some ⟨b1, 0, none⟩)) from (by kernel_rfl)) st hb1 (by kernel_rfl) ?_)
        refine WO_seg 1 [(23, .int .i64 p1)] (by kernel_rfl) (by kernel_rfl) ?_
        replace hr := bindS hr
        obtain ⟨x1, hx2, hr⟩ := hr
        refine WO_one rfl (One_index (d := 24) (t := 22) (e := 9) (x := (.tmp 22)) (y := (.tmp 23)) cStr (by kernel_rfl) rfl (show evL _ _ = some (.slice a1 (List.length p0) c1) from (by kernel_rfl)) (show evL _ _ = some (.int .i64 p1) from (by kernel_rfl)) (by kernel_rfl) r1 hx2 ?_)
        rintro b2 f1 cs1 rfl hq1
        refine WO_one rfl (One_load_row (d := 25) (t := 9) (x := (.tmp 24)) (.string x1) (by kernel_rfl) rfl (show evL _ _ = some (.pointer (some ⟨b2, f1, none⟩)) from (by kernel_rfl)) st hq1 (by kernel_rfl) ?_)
        refine WO_seg 2 [(4, .string x1), (5, .int .i64 0)] (by kernel_rfl) (by kernel_rfl) ?_
        refine WO_end rfl ?_
        refine X_then ?_
        refine W_ret ?_
        obtain rfl := Option.some.inj hr
        refine X_ret [.tmp 4, .tmp 5] [.string x1, .int .i64 0] rfl (ResAll.cons (ResAt.tmp (by kernel_rfl)) (ResAll.cons (ResAt.tmp (by kernel_rfl)) ResAll.nil)) ?_
        exact ⟨m3, rfl, hm, st⟩
    · intro K
      clear hrK
      refine WO_seg 3 [(14, .bool (decide (p1 < 0)))] (by kernel_rfl) (by kernel_rfl) ?_
      rcases bcases (decide (p1 < 0)) with hc | hc
      · rw [if_pos hc] at hr
        refine WO_fact (t := 14) (b := true) (decide (p1 < 0)) (by kernel_rfl) hc ?_
        refine WO_seg 6 [(20, .bool true)] (by kernel_rfl) (by kernel_rfl) ?_
        obtain rfl := Option.some.inj hr
        exact WO_env _ (by kernel_rfl) (K _ _ ⟨m2, rfl, hm, st, hb1, r1⟩)
      · rw [if_neg (not_true hc)] at hr
        refine WO_fact (t := 14) (b := false) (decide (p1 < 0)) (by kernel_rfl) hc ?_
        refine WO_seg 2 [(15, .int .i64 p1), (16, .pointer (some ⟨b1, 0, none⟩))] (by kernel_rfl) (by kernel_rfl) ?_
        refine WO_one rfl (One_load_row (d := 17) (t := 22) (x := (.tmp 16)) (.slice a1 (List.length p0) c1) (by kernel_rfl) rfl (show evL _ _ = some (.pointer (some ⟨b1, 0, none⟩)) from (by kernel_rfl)) st hb1 (by kernel_rfl) ?_)
        refine WO_seg 3 [(20, .bool (decide (p1 ≥ (List.length p0 : Int))))] (by kernel_rfl) (by kernel_rfl) ?_
        obtain rfl := Option.some.inj hr
        exact WO_env _ (by kernel_rfl) (K _ _ ⟨m2, rfl, hm, st, hb1, r1⟩)

def testgateref13_Keep_L1 (N : Nat) (p0 : List ByteArray) (p1 : List Int) (s1 : Int × List (Bool)) : Option ((Int × List (Bool)) ⊕ ((List (Bool)) ⊕ (List ByteArray × List Int × Int))) :=
  if (decide (s1.1 < (List.length p1 : Int))) = true then ((idx p1 s1.1).bind fun x1 => (if (decide (x1 < 0)) = true then (some true) else (some (decide (x1 ≥ (List.length p0 : Int)))) : Option (Bool)).bind fun o2 => if o2 = true then (some (.inr (.inr ((([] : List (ByteArray)), ([] : List (Int)), 20))))) else ((idx s1.2 x1).bind fun x2 => some (.inl (IntKind.wrap .i64 (s1.1 + 1), List.set s1.2 (Int.toNat x1) true)))) else (some (.inr (.inl s1.2)))

def testgateref13_Keep_L2 (N : Nat) (p0 : List ByteArray) (o1 : List (Bool)) (s2 : List (Int) × Int × List (ByteArray)) : Option ((List (Int) × Int × List (ByteArray)) ⊕ ((List (Int) × List (ByteArray)))) :=
  if (decide (s2.2.1 < (List.length p0 : Int))) = true then (((idx p0 s2.2.1).bind fun x3 => (idx o1 s2.2.1).bind fun x4 => if (!x4) = true then ((appendS 8 s2.1 ([(-1)])).bind fun l2 => some (l2, s2.2.2)) else ((appendS 8 s2.1 ([(List.length s2.2.2 : Int)])).bind fun l3 => (appendS 16 s2.2.2 ([x3])).bind fun l4 => some (l3, l4)) : Option (List (Int) × List (ByteArray))).bind fun o4 => some (.inl (o4.1, IntKind.wrap .i64 (s2.2.1 + 1), o4.2))) else (some (.inr (s2.1, s2.2.2)))

def testgateref13_Keep (N : Nat) (p0 : List ByteArray) (p1 : List Int) : Option (List ByteArray × List Int × Int) :=
  (testgateref13_Check N p0).bind fun y1 => if (y1 != 0) = true then (some (([] : List (ByteArray)), ([] : List (Int)), y1)) else ((makeA 1 false (List.length p0 : Int)).bind fun l1 => (loopM (testgateref13_Keep_L1 N p0 p1) N (0, l1)).bind fun out1 => (match out1 with | .inl o1 => (loopM (testgateref13_Keep_L2 N p0 o1) N (([] : List (Int)), 0, ([] : List (ByteArray)))).bind fun o3 => some (o3.2, o3.1, 0) | .inr (z) => some z))

set_option maxHeartbeats 4000000 in
set_option maxRecDepth 100000 in
theorem testgateref13_Keep_ok {N : Nat} {m : Mem} {own : List Piece} {w : World} {p0 : List ByteArray} {p1 : List Int} {a1 : Option Addr} {c1 : Nat} {a2 : Option Addr} {c2 : Nat} {r : List ByteArray × List Int × Int} (st : St m (own) w) (r1 : RepS cStr m a1 c1 p0) (r2 : RepS (cInt .i64) m a2 c2 p1) (hr : testgateref13_Keep N p0 p1 = some r) : Calls Go.Proofs.Try.prog 27 #[.agg #[.slice a1 (List.length p0) c1], .slice a2 (List.length p1) c2] w fun e w' => ∃ (ra1 : Option Addr) (rc1 : Nat) (ra2 : Option Addr) (rc2 : Nat) (m' : Mem), e = .returned (.tuple #[.agg #[.slice ra1 (List.length r.1) rc1], .slice ra2 (List.length r.2.1) rc2, .int .i64 r.2.2]) ∧ m.le m' ∧ St m' (.room ra1 (List.length r.1) rc1 9 1 :: .room ra2 (List.length r.2.1) rc2 3 1 :: own) w' ∧ RepS cStr m' ra1 rc1 r.1 ∧ RepS (cInt .i64) m' ra2 rc2 r.2.1 := by
  unfold testgateref13_Keep at hr
  have hm := m.le_refl
  refine W_calls Go.Proofs.Try.func27 rfl Go.Proofs.Try.ntmps27 [(0, .agg #[.slice a1 (List.length p0) c1]), (1, .slice a2 (List.length p1) c2)] (by kernel_rfl) rfl ?_
  refine W_seq ?_
  refine W_region ?_
  refine WO_one rfl (One_box (d := 2) (e := 24) (x := (.tmp 0)) (.agg #[.slice a1 (List.length p0) c1]) (by kernel_rfl) rfl (by kernel_rfl) st ?_)
  clear st
  intro b1 m1 w1 hle1 st hb1
  have hm := Mem.le_trans hm hle1
  have r1 := r1.mono hle1
  have r2 := r2.mono hle1
  refine WO_one rfl (One_alloc (d := 4) (e := 24) (.agg #[.slice none 0 0]) (by kernel_rfl) rfl (by kernel_rfl) st ?_)
  clear st
  intro b2 w2 st
  refine WO_seg 2 [] (by kernel_rfl) (by kernel_rfl) ?_
  refine WO_end rfl ?_
  refine X_then ?_
  refine W_seq ?_
  refine W_seq ?_
  refine W_region ?_
  refine WO_one rfl (One_load_row (d := 15) (t := 24) (x := (.tmp 2)) (.agg #[.slice a1 (List.length p0) c1]) (by kernel_rfl) rfl (show evL _ _ = some (.pointer (some ⟨b1, 0, none⟩)) from (by kernel_rfl)) st hb1 (by kernel_rfl) ?_)
  replace hr := bindS hr
  obtain ⟨y1, hx1, hr⟩ := hr
  refine WO_one rfl (One_fn 16 18 #[.agg #[.slice a1 (List.length p0) c1]] (by kernel_rfl) rfl ?_)
  refine (testgateref13_Check_ok st r1 hx1).mono ?_
  clear st
  rintro _ w3 ⟨m2, rfl, hle2, st⟩
  refine ⟨_, rfl, ?_⟩
  have hm := Mem.le_trans hm hle2
  have r2 := r2.mono hle2
  have hb1 := hb1.mono hle2
  have r1 := r1.mono hle2
  refine WO_seg 1 [(7, .int .i64 y1)] (by kernel_rfl) (by kernel_rfl) ?_
  refine WO_end rfl ?_
  refine X_then ?_
  refine W_seq ?_
  refine W_region ?_
  refine WO_seg 2 [(18, .bool (y1 != 0))] (by kernel_rfl) (by kernel_rfl) ?_
  refine WO_end rfl ?_
  refine X_then ?_
  refine W_cond (y1 != 0) (by kernel_rfl) ?_ ?_
  · intro hc
    rw [if_pos hc] at hr
    refine W_seq ?_
    refine W_region ?_
    refine WO_seg 2 [(19, .agg #[.slice none (List.length ([] : List (ByteArray))) 0]), (20, .int .i64 y1)] (by kernel_rfl) (by kernel_rfl) ?_
    refine WO_one rfl (One_store (t := 24) (x := (.tmp 4)) (y := (.tmp 19)) (v := .agg #[.slice none (List.length ([] : List (ByteArray))) 0]) (c' := #[.slice none (List.length ([] : List (ByteArray))) 0]) (by kernel_rfl) (show evL _ _ = some (.pointer (some ⟨b2, 0, none⟩)) from (by kernel_rfl)) (show evL _ _ = some (.agg #[.slice none (List.length ([] : List (ByteArray))) 0]) from (by kernel_rfl)) st (by kernel_rfl) (by kernel_rfl) ?_)
    clear st
    intro w4 st
    refine WO_seg 2 [(5, .slice none (List.length ([] : List (Int))) 0), (6, .int .i64 y1)] (by kernel_rfl) (by kernel_rfl) ?_
    refine WO_end rfl ?_
    refine X_then ?_
    refine W_ret ?_
    refine X_then_ret ?_
    obtain rfl := Option.some.inj hr
    refine X_ret [.cell 4 24, .tmp 5, .tmp 6] [.agg #[.slice none (List.length ([] : List (ByteArray))) 0], .slice none (List.length ([] : List (Int))) 0, .int .i64 y1] rfl (ResAll.cons (ResAt.blk (v := .agg #[.slice none (List.length ([] : List (ByteArray))) 0]) (o := 0) (by kernel_rfl) st.head (by kernel_rfl)) (ResAll.cons (ResAt.tmp (by kernel_rfl)) (ResAll.cons (ResAt.tmp (by kernel_rfl)) ResAll.nil))) ?_
    have st := st.nilroom 9 1
    have st := st.nilroom 3 1
    have st := st.front2
    have st := st.tail
    have st := st.front1
    exact ⟨none, 0, none, 0, m2, rfl, hm, st, (RepS.nil _ _), (RepS.nil _ _)⟩
  · intro hc
    rw [if_neg (not_true hc)] at hr
    refine W_skip ?_
    refine X_then ?_
    refine W_seq ?_
    refine W_region ?_
    refine WO_seg 1 [(21, .pointer (some ⟨b1, 0, none⟩))] (by kernel_rfl) (by kernel_rfl) ?_
    refine WO_one rfl (One_load_row (d := 22) (t := 22) (x := (.tmp 21)) (.slice a1 (List.length p0) c1) (by kernel_rfl) rfl (show evL _ _ = some (.pointer (some ⟨b1, 0, none⟩)) from (by kernel_rfl)) st hb1 (by kernel_rfl) ?_)
    refine WO_seg 1 [(23, .int .i64 (List.length p0 : Int))] (by kernel_rfl) (by kernel_rfl) ?_
    replace hr := bindS hr
    obtain ⟨l1, hx2, hr⟩ := hr
    refine WO_one rfl (One_makeArr (d := 24) (t := 98) (e := 4) (by_ := 1) (x := (.tmp 23)) (y := (.tmp 23)) (fun x : Bool => Value.bool x) (by kernel_rfl) rfl (show evL _ _ = some (.int .i64 (List.length p0 : Int)) from (by kernel_rfl)) (show evL _ _ = some (.int .i64 (List.length p0 : Int)) from (by kernel_rfl)) (by kernel_rfl) (by kernel_rfl) rfl st hx2 ?_)
    clear st
    intro b3 w5 hn1 st
    refine WO_seg 1 [(8, .slice (some ⟨b3, 0, none⟩) (Int.toNat (List.length p0 : Int)) (Int.toNat (List.length p0 : Int)))] (by kernel_rfl) (by kernel_rfl) ?_
    refine WO_end rfl ?_
    refine X_then ?_
    refine W_seq ?_
    refine W_seq ?_
    refine W_region ?_
    refine WO_seg 3 [(25, .slice a2 (List.length p1) c2), (26, .int .i64 (List.length p1 : Int)), (27, .int .i64 0)] (by kernel_rfl) (by kernel_rfl) ?_
    refine WO_end rfl ?_
    refine X_then ?_
    refine W_block ?_
    replace hr := bindS hr
    obtain ⟨out1, hr, hrKu1⟩ := hr
    refine W_cut (.exit 0) (fun L' w' => ∃ (o1 : List (Bool)) (m3 : Mem), (.inl o1) = out1 ∧ L' = [(2, .pointer (some ⟨b1, 0, none⟩)), (4, .pointer (some ⟨b2, 0, none⟩)), (8, .slice (some ⟨b3, 0, none⟩) (Int.toNat (List.length p0 : Int)) (Int.toNat (List.length p0 : Int)))] ∧ m.le m3 ∧ St m3 (.blk b2 (.cells #[.slice none (List.length ([] : List (ByteArray))) 0] 24 (0, 0)) :: .blk b3 (.cells (acells (fun x : Bool => Value.bool x) o1 []) 4 (0, 0)) :: own) w' ∧ MRow m3 b1 0 [.slice a1 (List.length p0) c1] ∧ RepS cStr m3 a1 c1 p0 ∧ List.length o1 = (Int.toNat (List.length p0 : Int))) ?_ ?_
    · clear hr st
      rintro _ w6 ⟨o1, m3, rfl, rfl, hm, st, hb1, r1, hn2⟩
      have hr := hrKu1
      clear hrKu1
      dsimp only at hr
      refine X_block_eq ?_
      refine X_then ?_
      refine W_seq ?_
      refine W_region ?_
      refine WO_one rfl (One_alloc (d := 11) (e := 24) (.agg #[.slice none 0 0]) (by kernel_rfl) rfl (by kernel_rfl) st ?_)
      clear st
      intro b5 w11 st
      refine WO_end rfl ?_
      refine X_then ?_
      refine W_seq ?_
      refine W_region ?_
      refine WO_seg 1 [(12, .slice none (List.length ([] : List (Int))) 0)] (by kernel_rfl) (by kernel_rfl) ?_
      refine WO_end rfl ?_
      refine X_then ?_
      refine W_seq ?_
      refine W_seq ?_
      refine W_region ?_
      refine WO_seg 1 [(45, .pointer (some ⟨b1, 0, none⟩))] (by kernel_rfl) (by kernel_rfl) ?_
      refine WO_one rfl (One_load_row (d := 46) (t := 22) (x := (.tmp 45)) (.slice a1 (List.length p0) c1) (by kernel_rfl) rfl (show evL _ _ = some (.pointer (some ⟨b1, 0, none⟩)) from (by kernel_rfl)) st hb1 (by kernel_rfl) ?_)
      refine WO_seg 2 [(47, .int .i64 (List.length p0 : Int)), (48, .int .i64 0)] (by kernel_rfl) (by kernel_rfl) ?_
      refine WO_end rfl ?_
      refine X_then ?_
      refine W_block ?_
      replace hr := bindS hr
      obtain ⟨out2, hr, hrKu3⟩ := hr
      refine W_cut (.exit 2) (fun L' w' => ∃ (o3 : List (Int) × List (ByteArray)) (a3 : Option Addr) (c3 : Nat) (a4 : Option Addr) (c4 : Nat) (m6 : Mem), o3 = out2 ∧ L' = [(4, .pointer (some ⟨b2, 0, none⟩)), (11, .pointer (some ⟨b5, 0, none⟩)), (12, .slice a3 (List.length o3.1) c3)] ∧ m.le m6 ∧ St m6 (.blk b5 (.cells #[.slice a4 (List.length o3.2) c4] 24 (0, 0)) :: .blk b2 (.cells #[.slice none (List.length ([] : List (ByteArray))) 0] 24 (0, 0)) :: .blk b3 (.cells (acells (fun x : Bool => Value.bool x) o1 []) 4 (0, 0)) :: .room a3 (List.length o3.1) c3 3 1 :: .room a4 (List.length o3.2) c4 9 1 :: own) w' ∧ RepS (cInt .i64) m6 a3 c3 o3.1 ∧ RepS cStr m6 a4 c4 o3.2 ∧ List.length o1 = (Int.toNat (List.length p0 : Int))) ?_ ?_
      · clear hr st
        rintro _ w12 ⟨o3, a3, c3, a4, c4, m6, rfl, rfl, hm, st, r3, r4, hn2⟩
        have hr := hrKu3
        clear hrKu3
        refine X_block_eq ?_
        refine X_then ?_
        refine W_seq ?_
        refine W_region ?_
        refine WO_one rfl (One_load_own (d := 74) (t := 24) (x := (.tmp 11)) (.agg #[.slice a4 (List.length o3.2) c4]) (by kernel_rfl) rfl (show evL _ _ = some (.pointer (some ⟨b5, 0, none⟩)) from (by kernel_rfl)) st.head (by kernel_rfl) ?_)
        refine WO_seg 1 [(75, .slice a3 (List.length o3.1) c3)] (by kernel_rfl) (by kernel_rfl) ?_
        have st := st.front1
        refine WO_one rfl (One_store (t := 24) (x := (.tmp 4)) (y := (.tmp 74)) (v := .agg #[.slice a4 (List.length o3.2) c4]) (c' := #[.slice a4 (List.length o3.2) c4]) (by kernel_rfl) (show evL _ _ = some (.pointer (some ⟨b2, 0, none⟩)) from (by kernel_rfl)) (show evL _ _ = some (.agg #[.slice a4 (List.length o3.2) c4]) from (by kernel_rfl)) st (by kernel_rfl) (by kernel_rfl) ?_)
        clear st
        intro w22 st
        refine WO_seg 2 [(5, .slice a3 (List.length o3.1) c3), (6, .int .i64 0)] (by kernel_rfl) (by kernel_rfl) ?_
        refine WO_end rfl ?_
        refine X_then ?_
        refine W_ret ?_
        obtain rfl := Option.some.inj hr
        refine X_ret [.cell 4 24, .tmp 5, .tmp 6] [.agg #[.slice a4 (List.length o3.2) c4], .slice a3 (List.length o3.1) c3, .int .i64 0] rfl (ResAll.cons (ResAt.blk (v := .agg #[.slice a4 (List.length o3.2) c4]) (o := 0) (by kernel_rfl) st.head (by kernel_rfl)) (ResAll.cons (ResAt.tmp (by kernel_rfl)) (ResAll.cons (ResAt.tmp (by kernel_rfl)) ResAll.nil))) ?_
        have st := st.tail
        have st := st.tail
        have st := st.tail
        have st := st.front1
        exact ⟨a4, c4, a3, c3, m6, rfl, hm, st, r4, r3⟩
      intro K2_u3
      clear hrKu3
      have st := st.nilroom 3 1
      have st := st.nilroom 9 1
      have st := st.front1
      have st := st.front4
      have st := st.front4
      have st := st.front4
      refine W_env _ (by kernel_rfl) (W_loop (fun k2 L' w' => ∃ (s2 : List (Int) × Int × List (ByteArray)) (a5 : Option Addr) (c5 : Nat) (a6 : Option Addr) (c6 : Nat) (m7 : Mem), loopM (testgateref13_Keep_L2 N p0 o1) k2 s2 = some out2 ∧ L' = [(4, .pointer (some ⟨b2, 0, none⟩)), (8, .slice (some ⟨b3, 0, none⟩) (Int.toNat (List.length p0 : Int)) (Int.toNat (List.length p0 : Int))), (11, .pointer (some ⟨b5, 0, none⟩)), (12, .slice a5 (List.length s2.1) c5), (46, .slice a1 (List.length p0) c1), (47, .int .i64 (List.length p0 : Int)), (48, .int .i64 s2.2.1)] ∧ m.le m7 ∧ St m7 (.blk b5 (.cells #[.slice a6 (List.length s2.2.2) c6] 24 (0, 0)) :: .blk b2 (.cells #[.slice none (List.length ([] : List (ByteArray))) 0] 24 (0, 0)) :: .blk b3 (.cells (acells (fun x : Bool => Value.bool x) o1 []) 4 (0, 0)) :: .room a5 (List.length s2.1) c5 3 1 :: .room a6 (List.length s2.2.2) c6 9 1 :: own) w' ∧ RepS (cInt .i64) m7 a5 c5 s2.1 ∧ RepS cStr m7 a1 c1 p0 ∧ RepS cStr m7 a6 c6 s2.2.2 ∧ List.length o1 = (Int.toNat (List.length p0 : Int))) N ⟨(([] : List (Int)), 0, ([] : List (ByteArray))), none, 0, none, 0, m3, hr, rfl, hm, st, (RepS.nil _ _), r1, (RepS.nil _ _), hn2⟩ ?_)
      clear st hr
      rintro k2 _ w13 ⟨s2, a5, c5, a6, c6, m7, hL, rfl, hm, st, r5, r1, r6, hn2⟩
      rcases k2 with _ | k2
      · exact loopM_zero hL
      · obtain ⟨qu3, hr, hSu3, hBu3⟩ := loopM_succ hL
        clear hL
        unfold testgateref13_Keep_L2 at hr
        refine W_seq ?_
        refine W_region ?_
        refine WO_seg 1 [(49, .bool (decide (s2.2.1 < (List.length p0 : Int))))] (by kernel_rfl) (by kernel_rfl) ?_
        refine WO_end rfl ?_
        refine X_then ?_
        refine W_seq ?_
        refine W_cond (decide (s2.2.1 < (List.length p0 : Int))) (by kernel_rfl) ?_ ?_
        · intro hc
          rw [if_pos hc] at hr
          refine W_skip ?_
          refine X_then ?_
          refine W_seq ?_
          replace hr := bindS hr
          obtain ⟨o4, hr, hrKu4⟩ := hr
          refine W_cut .normal (fun L' w' => ∃ (a7 : Option Addr) (c7 : Nat) (a8 : Option Addr) (c8 : Nat) (m8 : Mem), L' = [(4, .pointer (some ⟨b2, 0, none⟩)), (8, .slice (some ⟨b3, 0, none⟩) (Int.toNat (List.length p0 : Int)) (Int.toNat (List.length p0 : Int))), (11, .pointer (some ⟨b5, 0, none⟩)), (12, .slice a7 (List.length o4.1) c7), (46, .slice a1 (List.length p0) c1), (47, .int .i64 (List.length p0 : Int)), (48, .int .i64 s2.2.1)] ∧ m.le m8 ∧ St m8 (.blk b5 (.cells #[.slice a8 (List.length o4.2) c8] 24 (0, 0)) :: .blk b2 (.cells #[.slice none (List.length ([] : List (ByteArray))) 0] 24 (0, 0)) :: .blk b3 (.cells (acells (fun x : Bool => Value.bool x) o1 []) 4 (0, 0)) :: .room a7 (List.length o4.1) c7 3 1 :: .room a8 (List.length o4.2) c8 9 1 :: own) w' ∧ RepS (cInt .i64) m8 a7 c7 o4.1 ∧ RepS cStr m8 a1 c1 p0 ∧ RepS cStr m8 a8 c8 o4.2 ∧ List.length o1 = (Int.toNat (List.length p0 : Int))) ?_ ?_
          · clear hr st
            have hr := hrKu4
            clear hrKu4
            rintro _ w14 ⟨a7, c7, a8, c8, m8, rfl, hm, st, r7, r1, r8, hn2⟩
            refine X_then ?_
            refine W_region ?_
            refine WO_seg 2 [(48, .int .i64 (IntKind.wrap .i64 (s2.2.1 + 1)))] (by kernel_rfl) (by kernel_rfl) ?_
            refine WO_end rfl ?_
            obtain rfl := Option.some.inj hr
            have hL := hSu3 _ rfl
            have st := st.front4
            have st := st.front4
            have st := st.front4
            have st := st.front4
            have st := st.front4
            exact X_env _ (by kernel_rfl) (X_round k2 (Nat.lt_succ_self _) ⟨(o4.1, IntKind.wrap .i64 (s2.2.1 + 1), o4.2), a7, c7, a8, c8, m8, hL, rfl, hm, st, r7, r1, r8, hn2⟩)
          · intro Ku4
            clear hrKu4
            refine W_block ?_
            refine W_seq ?_
            refine W_region ?_
            refine WO_seg 1 [(50, .int .i64 s2.2.1)] (by kernel_rfl) (by kernel_rfl) ?_
            replace hr := bindS hr
            obtain ⟨x3, hx5, hr⟩ := hr
            refine WO_one rfl (One_index (d := 51) (t := 22) (e := 9) (x := (.tmp 46)) (y := (.tmp 48)) cStr (by kernel_rfl) rfl (show evL _ _ = some (.slice a1 (List.length p0) c1) from (by kernel_rfl)) (show evL _ _ = some (.int .i64 s2.2.1) from (by kernel_rfl)) (by kernel_rfl) r1 hx5 ?_)
            rintro b6 f2 cs2 rfl hq2
            refine WO_one rfl (One_load_row (d := 52) (t := 9) (x := (.tmp 51)) (.string x3) (by kernel_rfl) rfl (show evL _ _ = some (.pointer (some ⟨b6, f2, none⟩)) from (by kernel_rfl)) st hq2 (by kernel_rfl) ?_)
            refine WO_seg 2 [(13, .int .i64 s2.2.1), (14, .string x3)] (by kernel_rfl) (by kernel_rfl) ?_
            refine WO_end rfl ?_
            refine X_then ?_
            refine W_seq ?_
            refine W_seq ?_
            refine W_region ?_
            refine WO_seg 2 [(53, .slice (some ⟨b3, 0, none⟩) (Int.toNat (List.length p0 : Int)) (Int.toNat (List.length p0 : Int))), (54, .int .i64 s2.2.1)] (by kernel_rfl) (by kernel_rfl) ?_
            replace hr := bindS hr
            obtain ⟨x4, hx6, hr⟩ := hr
            refine WO_one rfl (One_arrIndex (d := 55) (t := 98) (e := 4) (x := (.tmp 53)) (y := (.tmp 54)) (by kernel_rfl) rfl (show evL _ _ = some (.slice (some ⟨b3, 0, none⟩) (Int.toNat (List.length p0 : Int)) (Int.toNat (List.length p0 : Int))) from (by kernel_rfl)) (show evL _ _ = some (.int .i64 s2.2.1) from (by kernel_rfl)) (by kernel_rfl) hn2 hx6 ?_)
            refine WO_one rfl (One_arrLoad (d := 56) (t := 4) (x := (.tmp 55)) (by kernel_rfl) rfl (show evL _ _ = some (.pointer (some ⟨b3, Int.toNat s2.2.1, none⟩)) from (by kernel_rfl)) st.tail.tail.head hx6 (by kernel_rfl) ?_)
            refine WO_seg 1 [(57, .bool (!x4))] (by kernel_rfl) (by kernel_rfl) ?_
            refine WO_end rfl ?_
            refine X_then ?_
            refine W_cond (!x4) (by kernel_rfl) ?_ ?_
            · intro hc
              rw [if_pos hc] at hr
              refine W_seq ?_
              refine W_region ?_
              refine WO_seg 1 [(58, .slice a5 (List.length s2.1) c5)] (by kernel_rfl) (by kernel_rfl) ?_
              refine WO_one rfl (One_buildSlice (d := 59) (t := 32) (e := 3) (len := 1) (parts := #[(0, (.const (.int .i64 (-1))))]) (cInt .i64) (xs := [(-1)]) [.int .i64 (-1)] (by kernel_rfl) rfl (fun _ => buildCells_run (by kernel_rfl) _) rfl rfl st ⟨[.int .i64 (-1)], _, rfl, rfl, rfl⟩ ?_)
              clear st
              intro b7 m9 w15 hle3 st r9
              have hm := Mem.le_trans hm hle3
              have r5 := r5.mono hle3
              have r1 := r1.mono hle3
              have r6 := r6.mono hle3
              have st := st.front4
              replace hr := bindS hr
              obtain ⟨l2, hx7, hr⟩ := hr
              refine WO_one rfl (One_append (d := 60) (t := 32) (u := 32) (e := 3) (by_ := 8) (x := (.tmp 58)) (y := (.tmp 59)) (cInt .i64) (by kernel_rfl) rfl (show evL _ _ = some (.slice a5 (List.length s2.1) c5) from (by kernel_rfl)) (show evL _ _ = some (.slice (some ⟨b7, 0, none⟩) (List.length ([(-1)])) 1) from (by kernel_rfl)) st (by kernel_rfl) (.inl (by kernel_rfl)) r5 r9.src hx7 ?_)
              clear st
              intro a9 c9 m10 w16 hle4 st r10
              have hm := Mem.le_trans hm hle4
              have r5 := r5.mono hle4
              have r1 := r1.mono hle4
              have r9 := r9.mono hle4
              have r6 := r6.mono hle4
              refine WO_seg 1 [(12, .slice a9 (List.length l2) c9)] (by kernel_rfl) (by kernel_rfl) ?_
              refine WO_end rfl ?_
              have st := st.front1
              have st := st.tail
              refine X_then ?_
              refine W_exit ?_
              refine X_then_exit ?_
              refine X_block_eq ?_
              obtain rfl := Option.some.inj hr
              have st := st.front4
              have st := st.front1
              have st := st.front4
              have st := st.front4
              have st := st.front4
              exact X_env _ (by kernel_rfl) (Ku4 _ _ ⟨a9, c9, a6, c6, m10, rfl, hm, st, r10, r1, r6, hn2⟩)
            · intro hc
              rw [if_neg (not_true hc)] at hr
              refine W_skip ?_
              refine X_then ?_
              refine W_seq ?_
              refine W_region ?_
              refine WO_seg 2 [(61, .slice a5 (List.length s2.1) c5), (62, .pointer (some ⟨b5, 0, none⟩))] (by kernel_rfl) (by kernel_rfl) ?_
              refine WO_one rfl (One_load_own (d := 63) (t := 22) (x := (.tmp 62)) (.slice a6 (List.length s2.2.2) c6) (by kernel_rfl) rfl (show evL _ _ = some (.pointer (some ⟨b5, 0, none⟩)) from (by kernel_rfl)) st.head (by kernel_rfl) ?_)
              refine WO_seg 1 [(64, .int .i64 (List.length s2.2.2 : Int))] (by kernel_rfl) (by kernel_rfl) ?_
              refine WO_one rfl (One_buildSlice (d := 65) (t := 32) (e := 3) (len := 1) (parts := #[(0, (.tmp 64))]) (cInt .i64) (xs := [(List.length s2.2.2 : Int)]) [.int .i64 (List.length s2.2.2 : Int)] (by kernel_rfl) rfl (fun _ => buildCells_run (by kernel_rfl) _) rfl rfl st ⟨[.int .i64 (List.length s2.2.2 : Int)], _, rfl, rfl, rfl⟩ ?_)
              clear st
              intro b8 m11 w17 hle5 st r11
              have hm := Mem.le_trans hm hle5
              have r5 := r5.mono hle5
              have r1 := r1.mono hle5
              have r6 := r6.mono hle5
              have st := st.front4
              replace hr := bindS hr
              obtain ⟨l3, hx8, hr⟩ := hr
              refine WO_one rfl (One_append (d := 66) (t := 32) (u := 32) (e := 3) (by_ := 8) (x := (.tmp 61)) (y := (.tmp 65)) (cInt .i64) (by kernel_rfl) rfl (show evL _ _ = some (.slice a5 (List.length s2.1) c5) from (by kernel_rfl)) (show evL _ _ = some (.slice (some ⟨b8, 0, none⟩) (List.length ([(List.length s2.2.2 : Int)])) 1) from (by kernel_rfl)) st (by kernel_rfl) (.inl (by kernel_rfl)) r5 r11.src hx8 ?_)
              clear st
              intro a10 c10 m12 w18 hle6 st r12
              have hm := Mem.le_trans hm hle6
              have r5 := r5.mono hle6
              have r1 := r1.mono hle6
              have r6 := r6.mono hle6
              have r11 := r11.mono hle6
              refine WO_seg 1 [(12, .slice a10 (List.length l3) c10)] (by kernel_rfl) (by kernel_rfl) ?_
              refine WO_end rfl ?_
              have st := st.front1
              have st := st.tail
              refine X_then ?_
              refine W_region ?_
              refine WO_seg 1 [(67, .pointer (some ⟨b5, 0, none⟩))] (by kernel_rfl) (by kernel_rfl) ?_
              refine WO_one rfl (One_load_own (d := 68) (t := 22) (x := (.tmp 67)) (.slice a6 (List.length s2.2.2) c6) (by kernel_rfl) rfl (show evL _ _ = some (.pointer (some ⟨b5, 0, none⟩)) from (by kernel_rfl)) st.tail.head (by kernel_rfl) ?_)
              refine WO_seg 1 [(69, .string x3)] (by kernel_rfl) (by kernel_rfl) ?_
              refine WO_one rfl (One_buildSlice (d := 70) (t := 22) (e := 9) (len := 1) (parts := #[(0, (.tmp 69))]) cStr (xs := [x3]) [.string x3] (by kernel_rfl) rfl (fun _ => buildCells_run (by kernel_rfl) _) rfl rfl st ⟨[.string x3], _, rfl, rfl, rfl⟩ ?_)
              clear st
              intro b9 m13 w19 hle7 st r13
              have hm := Mem.le_trans hm hle7
              have r12 := r12.mono hle7
              have r1 := r1.mono hle7
              have r6 := r6.mono hle7
              have st := st.front5
              replace hr := bindS hr
              obtain ⟨l4, hx9, hr⟩ := hr
              refine WO_one rfl (One_append (d := 71) (t := 22) (u := 22) (e := 9) (by_ := 16) (x := (.tmp 68)) (y := (.tmp 70)) cStr (by kernel_rfl) rfl (show evL _ _ = some (.slice a6 (List.length s2.2.2) c6) from (by kernel_rfl)) (show evL _ _ = some (.slice (some ⟨b9, 0, none⟩) (List.length ([x3])) 1) from (by kernel_rfl)) st (by kernel_rfl) (.inl (by kernel_rfl)) r6 r13.src hx9 ?_)
              clear st
              intro a11 c11 m14 w20 hle8 st r14
              have hm := Mem.le_trans hm hle8
              have r12 := r12.mono hle8
              have r1 := r1.mono hle8
              have r6 := r6.mono hle8
              have r13 := r13.mono hle8
              refine WO_seg 1 [(72, .pointer (some ⟨b5, 0, none⟩))] (by kernel_rfl) (by kernel_rfl) ?_
              have st := st.front3
              refine WO_one rfl (One_store (t := 22) (x := (.tmp 72)) (y := (.tmp 71)) (v := .slice a11 (List.length l4) c11) (c' := #[.slice a11 (List.length l4) c11]) (by kernel_rfl) (show evL _ _ = some (.pointer (some ⟨b5, 0, none⟩)) from (by kernel_rfl)) (show evL _ _ = some (.slice a11 (List.length l4) c11) from (by kernel_rfl)) st (by kernel_rfl) (by kernel_rfl) ?_)
              clear st
              intro w21 st
              refine WO_end rfl ?_
              have st := st.front2
              have st := st.tail
              refine X_block ?_
              obtain rfl := Option.some.inj hr
              have st := st.front1
              have st := st.front2
              have st := st.front4
              have st := st.front4
              have st := st.front4
              exact X_env _ (by kernel_rfl) (Ku4 _ _ ⟨a10, c10, a11, c11, m14, rfl, hm, st, r12, r1, r14, hn2⟩)
        · intro hc
          rw [if_neg (not_true hc)] at hr
          refine W_exit ?_
          refine X_then_exit ?_
          obtain rfl := Option.some.inj hr
          have ho := hBu3 _ rfl
          have st := st.front4
          have st := st.front4
          have st := st.front4
          have st := st.front4
          have st := st.front4
          refine X_then_exit ?_
          exact X_env _ (by kernel_rfl) (K2_u3 _ _ ⟨(s2.1, s2.2.2), a5, c5, a6, c6, m7, ho, rfl, hm, st, r5, r6, hn2⟩)
    intro K0_u1
    have st := st.front1
    refine W_env _ (by kernel_rfl) (W_loop (fun k1 L' w' => ∃ (s1 : Int × List (Bool)) (m4 : Mem), loopM (testgateref13_Keep_L1 N p0 p1) k1 s1 = some out1 ∧ L' = [(2, .pointer (some ⟨b1, 0, none⟩)), (4, .pointer (some ⟨b2, 0, none⟩)), (8, .slice (some ⟨b3, 0, none⟩) (Int.toNat (List.length p0 : Int)) (Int.toNat (List.length p0 : Int))), (25, .slice a2 (List.length p1) c2), (26, .int .i64 (List.length p1 : Int)), (27, .int .i64 s1.1)] ∧ m.le m4 ∧ St m4 (.blk b2 (.cells #[.slice none (List.length ([] : List (ByteArray))) 0] 24 (0, 0)) :: .blk b3 (.cells (acells (fun x : Bool => Value.bool x) s1.2 []) 4 (0, 0)) :: own) w' ∧ MRow m4 b1 0 [.slice a1 (List.length p0) c1] ∧ RepS cStr m4 a1 c1 p0 ∧ RepS (cInt .i64) m4 a2 c2 p1 ∧ List.length s1.2 = (Int.toNat (List.length p0 : Int))) N ⟨(0, l1), m2, hr, rfl, hm, st, hb1, r1, r2, hn1⟩ ?_)
    clear st hr
    rintro k1 _ w7 ⟨s1, m4, hL, rfl, hm, st, hb1, r1, r2, hn3⟩
    rcases k1 with _ | k1
    · exact loopM_zero hL
    · obtain ⟨qu1, hr, hSu1, hBu1⟩ := loopM_succ hL
      clear hL
      unfold testgateref13_Keep_L1 at hr
      refine W_seq ?_
      refine W_region ?_
      refine WO_seg 1 [(28, .bool (decide (s1.1 < (List.length p1 : Int))))] (by kernel_rfl) (by kernel_rfl) ?_
      refine WO_end rfl ?_
      refine X_then ?_
      refine W_seq ?_
      refine W_cond (decide (s1.1 < (List.length p1 : Int))) (by kernel_rfl) ?_ ?_
      · intro hc
        rw [if_pos hc] at hr
        refine W_skip ?_
        refine X_then ?_
        refine W_seq ?_
        refine W_block ?_
        refine W_seq ?_
        refine W_region ?_
        replace hr := bindS hr
        obtain ⟨x1, hx3, hr⟩ := hr
        refine WO_one rfl (One_index (d := 29) (t := 32) (e := 3) (x := (.tmp 25)) (y := (.tmp 27)) (cInt .i64) (by kernel_rfl) rfl (show evL _ _ = some (.slice a2 (List.length p1) c2) from (by kernel_rfl)) (show evL _ _ = some (.int .i64 s1.1) from (by kernel_rfl)) (by kernel_rfl) r2 hx3 ?_)
        rintro b4 f1 cs1 rfl hq1
        refine WO_one rfl (One_load_row (d := 30) (t := 3) (x := (.tmp 29)) (.int .i64 x1) (by kernel_rfl) rfl (show evL _ _ = some (.pointer (some ⟨b4, f1, none⟩)) from (by kernel_rfl)) st hq1 (by kernel_rfl) ?_)
        refine WO_seg 1 [(10, .int .i64 x1)] (by kernel_rfl) (by kernel_rfl) ?_
        refine WO_end rfl ?_
        refine X_then ?_
        refine W_seq ?_
        refine W_seq ?_
        refine W_region ?_
        replace hr := bindS hr
        obtain ⟨o2, hr, hrK⟩ := hr
        refine WO_cut (j := 9) (fun L' w' => ∃ (m5 : Mem), L' = [(2, .pointer (some ⟨b1, 0, none⟩)), (4, .pointer (some ⟨b2, 0, none⟩)), (8, .slice (some ⟨b3, 0, none⟩) (Int.toNat (List.length p0 : Int)) (Int.toNat (List.length p0 : Int))), (10, .int .i64 x1), (25, .slice a2 (List.length p1) c2), (26, .int .i64 (List.length p1 : Int)), (27, .int .i64 s1.1), (39, .bool o2)] ∧ m.le m5 ∧ St m5 (.blk b2 (.cells #[.slice none (List.length ([] : List (ByteArray))) 0] 24 (0, 0)) :: .blk b3 (.cells (acells (fun x : Bool => Value.bool x) s1.2 []) 4 (0, 0)) :: own) w' ∧ MRow m5 b1 0 [.slice a1 (List.length p0) c1] ∧ RepS cStr m5 a1 c1 p0 ∧ RepS (cInt .i64) m5 a2 c2 p1 ∧ List.length s1.2 = (Int.toNat (List.length p0 : Int))) ?_ ?_
        · clear hr st
          have hr := hrK
          clear hrK
          rintro _ w8 ⟨m5, rfl, hm, st, hb1, r1, r2, hn3⟩
          refine WO_end rfl ?_
          refine X_then ?_
          refine W_cond o2 (by kernel_rfl) ?_ ?_
          · intro hc
            rw [if_pos hc] at hr
            refine W_seq ?_
            refine W_region ?_
            refine WO_seg 1 [(40, .agg #[.slice none (List.length ([] : List (ByteArray))) 0])] (by kernel_rfl) (by kernel_rfl) ?_
            refine WO_one rfl (One_store (t := 24) (x := (.tmp 4)) (y := (.tmp 40)) (v := .agg #[.slice none (List.length ([] : List (ByteArray))) 0]) (c' := #[.slice none (List.length ([] : List (ByteArray))) 0]) (by kernel_rfl) (show evL _ _ = some (.pointer (some ⟨b2, 0, none⟩)) from (by kernel_rfl)) (show evL _ _ = some (.agg #[.slice none (List.length ([] : List (ByteArray))) 0]) from (by kernel_rfl)) st (by kernel_rfl) (by kernel_rfl) ?_)
            clear st
            intro w9 st
            refine WO_seg 2 [(5, .slice none (List.length ([] : List (Int))) 0), (6, .int .i64 20)] (by kernel_rfl) (by kernel_rfl) ?_
            refine WO_end rfl ?_
            refine X_then ?_
            refine W_ret ?_
            refine X_then_ret ?_
            refine X_block_ret ?_
            refine X_then_ret ?_
            obtain rfl := Option.some.inj hr
            have ho := hBu1 _ rfl
            subst ho
            have hr := hrKu1
            dsimp only at hr
            refine X_then_ret ?_
            refine X_block_ret ?_
            refine X_then_ret ?_
            obtain rfl := Option.some.inj hr
            refine X_ret [.cell 4 24, .tmp 5, .tmp 6] [.agg #[.slice none (List.length ([] : List (ByteArray))) 0], .slice none (List.length ([] : List (Int))) 0, .int .i64 20] rfl (ResAll.cons (ResAt.blk (v := .agg #[.slice none (List.length ([] : List (ByteArray))) 0]) (o := 0) (by kernel_rfl) st.head (by kernel_rfl)) (ResAll.cons (ResAt.tmp (by kernel_rfl)) (ResAll.cons (ResAt.tmp (by kernel_rfl)) ResAll.nil))) ?_
            have st := st.nilroom 9 1
            have st := st.nilroom 3 1
            have st := st.front2
            have st := st.tail
            have st := st.front2
            have st := st.tail
            have st := st.front1
            exact ⟨none, 0, none, 0, m5, rfl, hm, st, (RepS.nil _ _), (RepS.nil _ _)⟩
          · intro hc
            rw [if_neg (not_true hc)] at hr
            refine W_skip ?_
            refine X_then ?_
            refine W_region ?_
            refine WO_seg 2 [(41, .slice (some ⟨b3, 0, none⟩) (Int.toNat (List.length p0 : Int)) (Int.toNat (List.length p0 : Int))), (42, .int .i64 x1)] (by kernel_rfl) (by kernel_rfl) ?_
            replace hr := bindS hr
            obtain ⟨x2, hx4, hr⟩ := hr
            refine WO_one rfl (One_arrIndex (d := 43) (t := 98) (e := 4) (x := (.tmp 41)) (y := (.tmp 42)) (by kernel_rfl) rfl (show evL _ _ = some (.slice (some ⟨b3, 0, none⟩) (Int.toNat (List.length p0 : Int)) (Int.toNat (List.length p0 : Int))) from (by kernel_rfl)) (show evL _ _ = some (.int .i64 x1) from (by kernel_rfl)) (by kernel_rfl) hn3 hx4 ?_)
            have st := st.front1
            refine WO_one rfl (One_arrStore (f := (fun x : Bool => Value.bool x)) (u := true) (t := 4) (x := (.tmp 43)) (y := (.const (.bool true))) (by kernel_rfl) (show evL _ _ = some (.pointer (some ⟨b3, Int.toNat x1, none⟩)) from (by kernel_rfl)) (show evL _ _ = some (.bool true) from (by kernel_rfl)) st hx4 rfl (by kernel_rfl) ?_)
            clear st
            intro w10 st
            have hn4 : List.length (List.set s1.2 (Int.toNat x1) true) = (Int.toNat (List.length p0 : Int)) := set_len hn3 _ _
            refine WO_end rfl ?_
            refine X_block ?_
            refine X_then ?_
            refine W_region ?_
            refine WO_seg 2 [(27, .int .i64 (IntKind.wrap .i64 (s1.1 + 1)))] (by kernel_rfl) (by kernel_rfl) ?_
            refine WO_end rfl ?_
            obtain rfl := Option.some.inj hr
            have hL := hSu1 _ rfl
            have st := st.front1
            exact X_env _ (by kernel_rfl) (X_round k1 (Nat.lt_succ_self _) ⟨(IntKind.wrap .i64 (s1.1 + 1), List.set s1.2 (Int.toNat x1) true), m5, hL, rfl, hm, st, hb1, r1, r2, hn4⟩)
        · intro K
          clear hrK
          refine WO_seg 3 [(33, .bool (decide (x1 < 0)))] (by kernel_rfl) (by kernel_rfl) ?_
          rcases bcases (decide (x1 < 0)) with hc | hc
          · rw [if_pos hc] at hr
            refine WO_fact (t := 33) (b := true) (decide (x1 < 0)) (by kernel_rfl) hc ?_
            refine WO_seg 6 [(39, .bool true)] (by kernel_rfl) (by kernel_rfl) ?_
            obtain rfl := Option.some.inj hr
            have st := st.front1
            have st := st.front1
            exact WO_env _ (by kernel_rfl) (K _ _ ⟨m4, rfl, hm, st, hb1, r1, r2, hn3⟩)
          · rw [if_neg (not_true hc)] at hr
            refine WO_fact (t := 33) (b := false) (decide (x1 < 0)) (by kernel_rfl) hc ?_
            refine WO_seg 2 [(34, .int .i64 x1), (35, .pointer (some ⟨b1, 0, none⟩))] (by kernel_rfl) (by kernel_rfl) ?_
            refine WO_one rfl (One_load_row (d := 36) (t := 22) (x := (.tmp 35)) (.slice a1 (List.length p0) c1) (by kernel_rfl) rfl (show evL _ _ = some (.pointer (some ⟨b1, 0, none⟩)) from (by kernel_rfl)) st hb1 (by kernel_rfl) ?_)
            refine WO_seg 3 [(39, .bool (decide (x1 ≥ (List.length p0 : Int))))] (by kernel_rfl) (by kernel_rfl) ?_
            obtain rfl := Option.some.inj hr
            have st := st.front1
            have st := st.front1
            exact WO_env _ (by kernel_rfl) (K _ _ ⟨m4, rfl, hm, st, hb1, r1, r2, hn3⟩)
      · intro hc
        rw [if_neg (not_true hc)] at hr
        refine W_exit ?_
        refine X_then_exit ?_
        obtain rfl := Option.some.inj hr
        have ho := hBu1 _ rfl
        have st := st.front1
        have st := st.front1
        refine X_then_exit ?_
        exact X_env _ (by kernel_rfl) (K0_u1 _ _ ⟨s1.2, m4, ho, rfl, hm, st, hb1, r1, hn3⟩)

def testgatemake_SameInts_L1 (N : Nat) (p0 : List Int) (p1 : List Int) (s1 : Int) : Option ((Int) ⊕ ((Unit) ⊕ (Bool))) :=
  if (decide (s1 < (List.length p0 : Int))) = true then ((idx p0 s1).bind fun x1 => (idx p1 s1).bind fun x2 => if (x1 != x2) = true then (some (.inr (.inr (false)))) else (some (.inl (IntKind.wrap .i64 (s1 + 1))))) else (some (.inr (.inl ())))

def testgatemake_SameInts (N : Nat) (p0 : List Int) (p1 : List Int) : Option (Bool) :=
  if ((List.length p0 : Int) != (List.length p1 : Int)) = true then (some false) else ((loopM (testgatemake_SameInts_L1 N p0 p1) N 0).bind fun out1 => (match out1 with | .inl o1 => some true | .inr (z) => some z))

set_option maxHeartbeats 4000000 in
set_option maxRecDepth 100000 in
theorem testgatemake_SameInts_ok {N : Nat} {m : Mem} {own : List Piece} {w : World} {p0 : List Int} {p1 : List Int} {a1 : Option Addr} {c1 : Nat} {a2 : Option Addr} {c2 : Nat} {r : Bool} (st : St m (own) w) (r1 : RepS (cInt .i64) m a1 c1 p0) (r2 : RepS (cInt .i64) m a2 c2 p1) (hr : testgatemake_SameInts N p0 p1 = some r) : Calls Go.Proofs.Try.prog 28 #[.slice a1 (List.length p0) c1, .slice a2 (List.length p1) c2] w fun e w' => ∃ (m' : Mem), e = .returned (.bool r) ∧ m.le m' ∧ St m' (own) w' := by
  unfold testgatemake_SameInts at hr
  have hm := m.le_refl
  refine W_calls Go.Proofs.Try.func28 rfl Go.Proofs.Try.ntmps28 [(0, .slice a1 (List.length p0) c1), (1, .slice a2 (List.length p1) c2)] (by kernel_rfl) rfl ?_
  refine W_seq ?_
  refine W_region ?_
  refine WO_seg 1 [] (by kernel_rfl) (by kernel_rfl) ?_
  refine WO_end rfl ?_
  refine X_then ?_
  refine W_seq ?_
  refine W_seq ?_
  refine W_region ?_
  refine WO_seg 5 [(10, .bool ((List.length p0 : Int) != (List.length p1 : Int)))] (by kernel_rfl) (by kernel_rfl) ?_
  refine WO_end rfl ?_
  refine X_then ?_
  refine W_cond ((List.length p0 : Int) != (List.length p1 : Int)) (by kernel_rfl) ?_ ?_
  · intro hc
    rw [if_pos hc] at hr
    refine W_seq ?_
    refine W_region ?_
    refine WO_seg 1 [(4, .bool false)] (by kernel_rfl) (by kernel_rfl) ?_
    refine WO_end rfl ?_
    refine X_then ?_
    refine W_ret ?_
    refine X_then_ret ?_
    obtain rfl := Option.some.inj hr
    refine X_ret [.tmp 4] [.bool false] rfl (ResAll.cons (ResAt.tmp (by kernel_rfl)) ResAll.nil) ?_
    exact ⟨m, rfl, hm, st⟩
  · intro hc
    rw [if_neg (not_true hc)] at hr
    refine W_skip ?_
    refine X_then ?_
    refine W_seq ?_
    refine W_seq ?_
    refine W_region ?_
    refine WO_seg 1 [(5, .int .i64 0)] (by kernel_rfl) (by kernel_rfl) ?_
    refine WO_end rfl ?_
    refine X_then ?_
    refine W_block ?_
    replace hr := bindS hr
    obtain ⟨out1, hr, hrKu1⟩ := hr
    refine W_cut (.exit 0) (fun L' w' => ∃ (o1 : Unit) (m1 : Mem), (.inl o1) = out1 ∧ L' = [] ∧ m.le m1 ∧ St m1 (own) w') ?_ ?_
    · clear hr st
      rintro _ w1 ⟨o1, m1, rfl, rfl, hm, st⟩
      have hr := hrKu1
      clear hrKu1
      dsimp only at hr
      refine X_block_eq ?_
      refine X_then ?_
      refine W_seq ?_
      refine W_region ?_
      refine WO_seg 1 [(4, .bool true)] (by kernel_rfl) (by kernel_rfl) ?_
      refine WO_end rfl ?_
      refine X_then ?_
      refine W_ret ?_
      obtain rfl := Option.some.inj hr
      refine X_ret [.tmp 4] [.bool true] rfl (ResAll.cons (ResAt.tmp (by kernel_rfl)) ResAll.nil) ?_
      exact ⟨m1, rfl, hm, st⟩
    intro K0_u1
    refine W_env _ (by kernel_rfl) (W_loop (fun k1 L' w' => ∃ (s1 : Int) (m2 : Mem), loopM (testgatemake_SameInts_L1 N p0 p1) k1 s1 = some out1 ∧ L' = [(0, .slice a1 (List.length p0) c1), (1, .slice a2 (List.length p1) c2), (5, .int .i64 s1)] ∧ m.le m2 ∧ St m2 (own) w' ∧ RepS (cInt .i64) m2 a1 c1 p0 ∧ RepS (cInt .i64) m2 a2 c2 p1) N ⟨0, m, hr, rfl, hm, st, r1, r2⟩ ?_)
    clear st hr
    rintro k1 _ w2 ⟨s1, m2, hL, rfl, hm, st, r1, r2⟩
    rcases k1 with _ | k1
    · exact loopM_zero hL
    · obtain ⟨qu1, hr, hSu1, hBu1⟩ := loopM_succ hL
      clear hL
      unfold testgatemake_SameInts_L1 at hr
      refine W_seq ?_
      refine W_seq ?_
      refine W_region ?_
      refine WO_seg 4 [(14, .bool (decide (s1 < (List.length p0 : Int))))] (by kernel_rfl) (by kernel_rfl) ?_
      refine WO_end rfl ?_
      refine X_then ?_
      refine W_cond (decide (s1 < (List.length p0 : Int))) (by kernel_rfl) ?_ ?_
      · intro hc
        rw [if_pos hc] at hr
        refine W_skip ?_
        refine X_then ?_
        refine W_seq ?_
        refine W_block ?_
        refine W_seq ?_
        refine W_draw [(9, fun w' => Inv m2 w' ∧ True)] (by kernel_rfl) st ?_
        clear st
        intro w3 _ st
        have hmS := m2.le_refl
        refine ⟨⟨.inr ⟨Inv.anti st.inv hmS, trivial⟩, trivial⟩, ?_⟩
        refine WA_pure 0 17 (.slice a1 (List.length p0) c1) (by kernel_rfl) rfl (by kernel_rfl) (.head _) (QP_then (QP_block (QP_then (QP_then (QP_block (QP_then QP_body)))))) ?_
        refine WA_pure 1 18 (.int .i64 s1) (by kernel_rfl) rfl (by kernel_rfl) (.head _) (QP_then (QP_block (QP_then (QP_then (QP_block (QP_then QP_body)))))) ?_
        replace hr := bindS hr
        obtain ⟨x1, hx1, hr⟩ := hr
        refine WA_index (t := 32) (e := 3) (x := (.tmp 17)) (y := (.tmp 18)) 2 19 (cInt .i64) (by kernel_rfl) rfl (by kernel_rfl) (.head _) (QP_then (QP_block (QP_then (QP_then (QP_block (QP_then QP_body)))))) (show evL _ _ = some (.slice a1 (List.length p0) c1) from (by kernel_rfl)) (show evL _ _ = some (.int .i64 s1) from (by kernel_rfl)) (by kernel_rfl) r1 hx1 ?_
        rintro b1 f1 cs1 rfl hq1
        refine WA_load_row (t := 3) (x := (.tmp 19)) 3 20 (.int .i64 x1) (by kernel_rfl) rfl (by kernel_rfl) (.head _) (QP_then (QP_block (QP_then (QP_then (QP_block (QP_then QP_body)))))) (fun _ h => h.1) (show evL _ _ = some (.pointer (some ⟨b1, f1, none⟩)) from (by kernel_rfl)) hq1 (by kernel_rfl) ?_
        refine WA_pure 4 21 (.slice a2 (List.length p1) c2) (by kernel_rfl) rfl (by kernel_rfl) (.head _) (QP_then (QP_block (QP_then (QP_then (QP_block (QP_then QP_body)))))) ?_
        refine WA_pure 5 22 (.int .i64 s1) (by kernel_rfl) rfl (by kernel_rfl) (.head _) (QP_then (QP_block (QP_then (QP_then (QP_block (QP_then QP_body)))))) ?_
        replace hr := bindS hr
        obtain ⟨x2, hx2, hr⟩ := hr
        refine WA_index (t := 32) (e := 3) (x := (.tmp 21)) (y := (.tmp 22)) 6 23 (cInt .i64) (by kernel_rfl) rfl (by kernel_rfl) (.head _) (QP_then (QP_block (QP_then (QP_then (QP_block (QP_then QP_body)))))) (show evL _ _ = some (.slice a2 (List.length p1) c2) from (by kernel_rfl)) (show evL _ _ = some (.int .i64 s1) from (by kernel_rfl)) (by kernel_rfl) r2 hx2 ?_
        rintro b2 f2 cs2 rfl hq2
        refine WA_load_row (t := 3) (x := (.tmp 23)) 7 24 (.int .i64 x2) (by kernel_rfl) rfl (by kernel_rfl) (.head _) (QP_then (QP_block (QP_then (QP_then (QP_block (QP_then QP_body)))))) (fun _ h => h.1) (show evL _ _ = some (.pointer (some ⟨b2, f2, none⟩)) from (by kernel_rfl)) hq2 (by kernel_rfl) ?_
        refine WA_pure 8 25 (.bool (x1 != x2)) (by kernel_rfl) rfl (by kernel_rfl) (.head _) (QP_then (QP_block (QP_then (QP_then (QP_block (QP_then QP_body)))))) ?_
        refine WA_done (by kernel_rfl) ?_
        refine X_then ?_
        refine W_cond (x1 != x2) (by kernel_rfl) ?_ ?_
        · intro hc
          rw [if_pos hc] at hr
          refine W_seq ?_
          refine W_region ?_
          refine WO_seg 1 [(4, .bool false)] (by kernel_rfl) (by kernel_rfl) ?_
          refine WO_end rfl ?_
          refine X_then ?_
          refine W_ret ?_
          refine X_block_ret ?_
          refine X_then_ret ?_
          obtain rfl := Option.some.inj hr
          have ho := hBu1 _ rfl
          subst ho
          have hr := hrKu1
          dsimp only at hr
          refine X_then_ret ?_
          refine X_block_ret ?_
          refine X_then_ret ?_
          obtain rfl := Option.some.inj hr
          refine X_ret [.tmp 4] [.bool false] rfl (ResAll.cons (ResAt.tmp (by kernel_rfl)) ResAll.nil) ?_
          exact ⟨m2, rfl, hm, st⟩
        · intro hc
          rw [if_neg (not_true hc)] at hr
          refine W_skip ?_
          refine X_block ?_
          refine X_then ?_
          refine W_region ?_
          refine WO_seg 3 [(5, .int .i64 (IntKind.wrap .i64 (s1 + 1)))] (by kernel_rfl) (by kernel_rfl) ?_
          refine WO_end rfl ?_
          obtain rfl := Option.some.inj hr
          have hL := hSu1 _ rfl
          exact X_env _ (by kernel_rfl) (X_round k1 (Nat.lt_succ_self _) ⟨IntKind.wrap .i64 (s1 + 1), m2, hL, rfl, hm, st, r1, r2⟩)
      · intro hc
        rw [if_neg (not_true hc)] at hr
        refine W_exit ?_
        refine X_then_exit ?_
        obtain rfl := Option.some.inj hr
        have ho := hBu1 _ rfl
        refine X_then_exit ?_
        exact X_env _ (by kernel_rfl) (K0_u1 _ _ ⟨(), m2, ho, rfl, hm, st⟩)

def testgateref13_Merge_L1 (N : Nat) (p1 : List ByteArray) (s1 : List (Int) × Int × List (ByteArray)) : Option ((List (Int) × Int × List (ByteArray)) ⊕ ((List (Int) × List (ByteArray)))) :=
  if (decide (s1.2.1 < (List.length p1 : Int))) = true then ((idx p1 s1.2.1).bind fun x1 => (testgateref13_find N s1.2.2 x1).bind fun y3 => (if (decide (y3 < 0)) = true then ((appendS 16 s1.2.2 ([x1])).bind fun l2 => some ((List.length s1.2.2 : Int), l2)) else (some (y3, s1.2.2)) : Option (Int × List (ByteArray))).bind fun o2 => (appendS 8 s1.1 ([o2.1])).bind fun l3 => some (.inl (l3, IntKind.wrap .i64 (s1.2.1 + 1), o2.2))) else (some (.inr (s1.1, s1.2.2)))

def testgateref13_Merge (N : Nat) (p0 : List ByteArray) (p1 : List ByteArray) : Option (List ByteArray × List Int × Int) :=
  (testgateref13_Check N p0).bind fun y1 => if (y1 != 0) = true then (some (([] : List (ByteArray)), ([] : List (Int)), y1)) else ((testgateref13_Check N p1).bind fun y2 => if (y2 != 0) = true then (some (([] : List (ByteArray)), ([] : List (Int)), y2)) else ((appendS 16 ([] : List (ByteArray)) p0).bind fun l1 => (loopM (testgateref13_Merge_L1 N p1) N (([] : List (Int)), 0, l1)).bind fun o1 => if (decide ((List.length o1.2 : Int) > 4096)) = true then (some (([] : List (ByteArray)), ([] : List (Int)), 2)) else (some (o1.2, o1.1, 0))))

set_option maxHeartbeats 4000000 in
set_option maxRecDepth 100000 in
theorem testgateref13_Merge_ok {N : Nat} {m : Mem} {own : List Piece} {w : World} {p0 : List ByteArray} {p1 : List ByteArray} {a1 : Option Addr} {c1 : Nat} {a2 : Option Addr} {c2 : Nat} {r : List ByteArray × List Int × Int} (st : St m (own) w) (r1 : RepS cStr m a1 c1 p0) (r2 : RepS cStr m a2 c2 p1) (hr : testgateref13_Merge N p0 p1 = some r) : Calls Go.Proofs.Try.prog 30 #[.agg #[.slice a1 (List.length p0) c1], .agg #[.slice a2 (List.length p1) c2]] w fun e w' => ∃ (ra1 : Option Addr) (rc1 : Nat) (ra2 : Option Addr) (rc2 : Nat) (m' : Mem), e = .returned (.tuple #[.agg #[.slice ra1 (List.length r.1) rc1], .slice ra2 (List.length r.2.1) rc2, .int .i64 r.2.2]) ∧ m.le m' ∧ St m' (.room ra1 (List.length r.1) rc1 9 1 :: .room ra2 (List.length r.2.1) rc2 3 1 :: own) w' ∧ RepS cStr m' ra1 rc1 r.1 ∧ RepS (cInt .i64) m' ra2 rc2 r.2.1 := by
  unfold testgateref13_Merge at hr
  have hm := m.le_refl
  refine W_calls Go.Proofs.Try.func30 rfl Go.Proofs.Try.ntmps30 [(0, .agg #[.slice a1 (List.length p0) c1]), (1, .agg #[.slice a2 (List.length p1) c2])] (by kernel_rfl) rfl ?_
  refine W_seq ?_
  refine W_region ?_
  refine WO_one rfl (One_box (d := 2) (e := 24) (x := (.tmp 0)) (.agg #[.slice a1 (List.length p0) c1]) (by kernel_rfl) rfl (by kernel_rfl) st ?_)
  clear st
  intro b1 m1 w1 hle1 st hb1
  have hm := Mem.le_trans hm hle1
  have r1 := r1.mono hle1
  have r2 := r2.mono hle1
  refine WO_one rfl (One_box (d := 3) (e := 24) (x := (.tmp 1)) (.agg #[.slice a2 (List.length p1) c2]) (by kernel_rfl) rfl (by kernel_rfl) st ?_)
  clear st
  intro b2 m2 w2 hle2 st hb2
  have hm := Mem.le_trans hm hle2
  have r1 := r1.mono hle2
  have r2 := r2.mono hle2
  have hb1 := hb1.mono hle2
  refine WO_one rfl (One_alloc (d := 4) (e := 24) (.agg #[.slice none 0 0]) (by kernel_rfl) rfl (by kernel_rfl) st ?_)
  clear st
  intro b3 w3 st
  refine WO_seg 2 [] (by kernel_rfl) (by kernel_rfl) ?_
  refine WO_end rfl ?_
  refine X_then ?_
  refine W_seq ?_
  refine W_seq ?_
  refine W_region ?_
  refine WO_one rfl (One_load_row (d := 14) (t := 24) (x := (.tmp 2)) (.agg #[.slice a1 (List.length p0) c1]) (by kernel_rfl) rfl (show evL _ _ = some (.pointer (some ⟨b1, 0, none⟩)) from (by kernel_rfl)) st hb1 (by kernel_rfl) ?_)
  replace hr := bindS hr
  obtain ⟨y1, hx1, hr⟩ := hr
  refine WO_one rfl (One_fn 15 18 #[.agg #[.slice a1 (List.length p0) c1]] (by kernel_rfl) rfl ?_)
  refine (testgateref13_Check_ok st r1 hx1).mono ?_
  clear st
  rintro _ w4 ⟨m3, rfl, hle3, st⟩
  refine ⟨_, rfl, ?_⟩
  have hm := Mem.le_trans hm hle3
  have hb1 := hb1.mono hle3
  have r1 := r1.mono hle3
  have hb2 := hb2.mono hle3
  have r2 := r2.mono hle3
  refine WO_seg 1 [(7, .int .i64 y1)] (by kernel_rfl) (by kernel_rfl) ?_
  refine WO_end rfl ?_
  refine X_then ?_
  refine W_seq ?_
  refine W_region ?_
  refine WO_seg 2 [(17, .bool (y1 != 0))] (by kernel_rfl) (by kernel_rfl) ?_
  refine WO_end rfl ?_
  refine X_then ?_
  refine W_cond (y1 != 0) (by kernel_rfl) ?_ ?_
  · intro hc
    rw [if_pos hc] at hr
    refine W_seq ?_
    refine W_region ?_
    refine WO_seg 2 [(18, .agg #[.slice none (List.length ([] : List (ByteArray))) 0]), (19, .int .i64 y1)] (by kernel_rfl) (by kernel_rfl) ?_
    refine WO_one rfl (One_store (t := 24) (x := (.tmp 4)) (y := (.tmp 18)) (v := .agg #[.slice none (List.length ([] : List (ByteArray))) 0]) (c' := #[.slice none (List.length ([] : List (ByteArray))) 0]) (by kernel_rfl) (show evL _ _ = some (.pointer (some ⟨b3, 0, none⟩)) from (by kernel_rfl)) (show evL _ _ = some (.agg #[.slice none (List.length ([] : List (ByteArray))) 0]) from (by kernel_rfl)) st (by kernel_rfl) (by kernel_rfl) ?_)
    clear st
    intro w5 st
    refine WO_seg 2 [(5, .slice none (List.length ([] : List (Int))) 0), (6, .int .i64 y1)] (by kernel_rfl) (by kernel_rfl) ?_
    refine WO_end rfl ?_
    refine X_then ?_
    refine W_ret ?_
    refine X_then_ret ?_
    obtain rfl := Option.some.inj hr
    refine X_ret [.cell 4 24, .tmp 5, .tmp 6] [.agg #[.slice none (List.length ([] : List (ByteArray))) 0], .slice none (List.length ([] : List (Int))) 0, .int .i64 y1] rfl (ResAll.cons (ResAt.blk (v := .agg #[.slice none (List.length ([] : List (ByteArray))) 0]) (o := 0) (by kernel_rfl) st.head (by kernel_rfl)) (ResAll.cons (ResAt.tmp (by kernel_rfl)) (ResAll.cons (ResAt.tmp (by kernel_rfl)) ResAll.nil))) ?_
    have st := st.nilroom 9 1
    have st := st.nilroom 3 1
    have st := st.front2
    have st := st.tail
    have st := st.front1
    exact ⟨none, 0, none, 0, m3, rfl, hm, st, (RepS.nil _ _), (RepS.nil _ _)⟩
  · intro hc
    rw [if_neg (not_true hc)] at hr
    refine W_skip ?_
    refine X_then ?_
    refine W_seq ?_
    refine W_seq ?_
    refine W_region ?_
    refine WO_one rfl (One_load_row (d := 20) (t := 24) (x := (.tmp 3)) (.agg #[.slice a2 (List.length p1) c2]) (by kernel_rfl) rfl (show evL _ _ = some (.pointer (some ⟨b2, 0, none⟩)) from (by kernel_rfl)) st hb2 (by kernel_rfl) ?_)
    replace hr := bindS hr
    obtain ⟨y2, hx2, hr⟩ := hr
    refine WO_one rfl (One_fn 21 18 #[.agg #[.slice a2 (List.length p1) c2]] (by kernel_rfl) rfl ?_)
    refine (testgateref13_Check_ok st r2 hx2).mono ?_
    clear st
    rintro _ w6 ⟨m4, rfl, hle4, st⟩
    refine ⟨_, rfl, ?_⟩
    have hm := Mem.le_trans hm hle4
    have hb1 := hb1.mono hle4
    have r1 := r1.mono hle4
    have hb2 := hb2.mono hle4
    have r2 := r2.mono hle4
    refine WO_seg 1 [(8, .int .i64 y2)] (by kernel_rfl) (by kernel_rfl) ?_
    refine WO_end rfl ?_
    refine X_then ?_
    refine W_seq ?_
    refine W_region ?_
    refine WO_seg 2 [(23, .bool (y2 != 0))] (by kernel_rfl) (by kernel_rfl) ?_
    refine WO_end rfl ?_
    refine X_then ?_
    refine W_cond (y2 != 0) (by kernel_rfl) ?_ ?_
    · intro hc
      rw [if_pos hc] at hr
      refine W_seq ?_
      refine W_region ?_
      refine WO_seg 2 [(24, .agg #[.slice none (List.length ([] : List (ByteArray))) 0]), (25, .int .i64 y2)] (by kernel_rfl) (by kernel_rfl) ?_
      refine WO_one rfl (One_store (t := 24) (x := (.tmp 4)) (y := (.tmp 24)) (v := .agg #[.slice none (List.length ([] : List (ByteArray))) 0]) (c' := #[.slice none (List.length ([] : List (ByteArray))) 0]) (by kernel_rfl) (show evL _ _ = some (.pointer (some ⟨b3, 0, none⟩)) from (by kernel_rfl)) (show evL _ _ = some (.agg #[.slice none (List.length ([] : List (ByteArray))) 0]) from (by kernel_rfl)) st (by kernel_rfl) (by kernel_rfl) ?_)
      clear st
      intro w7 st
      refine WO_seg 2 [(5, .slice none (List.length ([] : List (Int))) 0), (6, .int .i64 y2)] (by kernel_rfl) (by kernel_rfl) ?_
      refine WO_end rfl ?_
      refine X_then ?_
      refine W_ret ?_
      refine X_then_ret ?_
      obtain rfl := Option.some.inj hr
      refine X_ret [.cell 4 24, .tmp 5, .tmp 6] [.agg #[.slice none (List.length ([] : List (ByteArray))) 0], .slice none (List.length ([] : List (Int))) 0, .int .i64 y2] rfl (ResAll.cons (ResAt.blk (v := .agg #[.slice none (List.length ([] : List (ByteArray))) 0]) (o := 0) (by kernel_rfl) st.head (by kernel_rfl)) (ResAll.cons (ResAt.tmp (by kernel_rfl)) (ResAll.cons (ResAt.tmp (by kernel_rfl)) ResAll.nil))) ?_
      have st := st.nilroom 9 1
      have st := st.nilroom 3 1
      have st := st.front2
      have st := st.tail
      have st := st.front1
      exact ⟨none, 0, none, 0, m4, rfl, hm, st, (RepS.nil _ _), (RepS.nil _ _)⟩
    · intro hc
      rw [if_neg (not_true hc)] at hr
      refine W_skip ?_
      refine X_then ?_
      refine W_seq ?_
      refine W_region ?_
      refine WO_seg 1 [(26, .pointer (some ⟨b1, 0, none⟩))] (by kernel_rfl) (by kernel_rfl) ?_
      refine WO_one rfl (One_load_row (d := 27) (t := 22) (x := (.tmp 26)) (.slice a1 (List.length p0) c1) (by kernel_rfl) rfl (show evL _ _ = some (.pointer (some ⟨b1, 0, none⟩)) from (by kernel_rfl)) st hb1 (by kernel_rfl) ?_)
      have st := st.nilroom 9 1
      replace hr := bindS hr
      obtain ⟨l1, hx3, hr⟩ := hr
      refine WO_one rfl (One_append (d := 28) (t := 22) (u := 22) (e := 9) (by_ := 16) (x := (.const (.slice none 0 0))) (y := (.tmp 27)) cStr (by kernel_rfl) rfl (show evL _ _ = some (.slice none (List.length ([] : List (ByteArray))) 0) from (by kernel_rfl)) (show evL _ _ = some (.slice a1 (List.length p0) c1) from (by kernel_rfl)) st (by kernel_rfl) (.inl (by kernel_rfl)) (RepS.nil _ _) r1.src hx3 ?_)
      clear st
      intro a3 c3 m5 w8 hle5 st r3
      have hm := Mem.le_trans hm hle5
      have hb1 := hb1.mono hle5
      have r1 := r1.mono hle5
      have hb2 := hb2.mono hle5
      have r2 := r2.mono hle5
      refine WO_seg 1 [(29, .agg #[.slice a3 (List.length l1) c3])] (by kernel_rfl) (by kernel_rfl) ?_
      refine WO_one rfl (One_alloc (d := 9) (e := 24) (.agg #[.slice none 0 0]) (by kernel_rfl) rfl (by kernel_rfl) st ?_)
      clear st
      intro b4 w9 st
      refine WO_one rfl (One_store (t := 24) (x := (.tmp 9)) (y := (.tmp 29)) (v := .agg #[.slice a3 (List.length l1) c3]) (c' := #[.slice a3 (List.length l1) c3]) (by kernel_rfl) (show evL _ _ = some (.pointer (some ⟨b4, 0, none⟩)) from (by kernel_rfl)) (show evL _ _ = some (.agg #[.slice a3 (List.length l1) c3]) from (by kernel_rfl)) st (by kernel_rfl) (by kernel_rfl) ?_)
      clear st
      intro w10 st
      refine WO_end rfl ?_
      refine X_then ?_
      refine W_seq ?_
      refine W_region ?_
      refine WO_seg 1 [(10, .slice none (List.length ([] : List (Int))) 0)] (by kernel_rfl) (by kernel_rfl) ?_
      refine WO_end rfl ?_
      refine X_then ?_
      refine W_seq ?_
      refine W_seq ?_
      refine W_region ?_
      refine WO_seg 1 [(30, .pointer (some ⟨b2, 0, none⟩))] (by kernel_rfl) (by kernel_rfl) ?_
      refine WO_one rfl (One_load_row (d := 31) (t := 22) (x := (.tmp 30)) (.slice a2 (List.length p1) c2) (by kernel_rfl) rfl (show evL _ _ = some (.pointer (some ⟨b2, 0, none⟩)) from (by kernel_rfl)) st hb2 (by kernel_rfl) ?_)
      refine WO_seg 2 [(32, .int .i64 (List.length p1 : Int)), (33, .int .i64 0)] (by kernel_rfl) (by kernel_rfl) ?_
      refine WO_end rfl ?_
      refine X_then ?_
      refine W_block ?_
      replace hr := bindS hr
      obtain ⟨out1, hr, hrKu1⟩ := hr
      refine W_cut (.exit 0) (fun L' w' => ∃ (o1 : List (Int) × List (ByteArray)) (a4 : Option Addr) (c4 : Nat) (a5 : Option Addr) (c5 : Nat) (m6 : Mem), o1 = out1 ∧ L' = [(4, .pointer (some ⟨b3, 0, none⟩)), (9, .pointer (some ⟨b4, 0, none⟩)), (10, .slice a4 (List.length o1.1) c4)] ∧ m.le m6 ∧ St m6 (.blk b4 (.cells #[.slice a5 (List.length o1.2) c5] 24 (0, 0)) :: .blk b3 (.cells #[.slice none (List.length ([] : List (ByteArray))) 0] 24 (0, 0)) :: .room a4 (List.length o1.1) c4 3 1 :: .room a5 (List.length o1.2) c5 9 1 :: own) w' ∧ RepS (cInt .i64) m6 a4 c4 o1.1 ∧ RepS cStr m6 a5 c5 o1.2) ?_ ?_
      · clear hr st
        rintro _ w11 ⟨o1, a4, c4, a5, c5, m6, rfl, rfl, hm, st, r4, r5⟩
        have hr := hrKu1
        clear hrKu1
        refine X_block_eq ?_
        refine X_then ?_
        refine W_seq ?_
        refine W_seq ?_
        refine W_region ?_
        refine WO_seg 1 [(56, .pointer (some ⟨b4, 0, none⟩))] (by kernel_rfl) (by kernel_rfl) ?_
        refine WO_one rfl (One_load_own (d := 57) (t := 22) (x := (.tmp 56)) (.slice a5 (List.length o1.2) c5) (by kernel_rfl) rfl (show evL _ _ = some (.pointer (some ⟨b4, 0, none⟩)) from (by kernel_rfl)) st.head (by kernel_rfl) ?_)
        refine WO_seg 2 [(59, .bool (decide ((List.length o1.2 : Int) > 4096)))] (by kernel_rfl) (by kernel_rfl) ?_
        refine WO_end rfl ?_
        refine X_then ?_
        refine W_cond (decide ((List.length o1.2 : Int) > 4096)) (by kernel_rfl) ?_ ?_
        · intro hc
          rw [if_pos hc] at hr
          refine W_seq ?_
          refine W_region ?_
          refine WO_seg 1 [(60, .agg #[.slice none (List.length ([] : List (ByteArray))) 0])] (by kernel_rfl) (by kernel_rfl) ?_
          have st := st.front1
          refine WO_one rfl (One_store (t := 24) (x := (.tmp 4)) (y := (.tmp 60)) (v := .agg #[.slice none (List.length ([] : List (ByteArray))) 0]) (c' := #[.slice none (List.length ([] : List (ByteArray))) 0]) (by kernel_rfl) (show evL _ _ = some (.pointer (some ⟨b3, 0, none⟩)) from (by kernel_rfl)) (show evL _ _ = some (.agg #[.slice none (List.length ([] : List (ByteArray))) 0]) from (by kernel_rfl)) st (by kernel_rfl) (by kernel_rfl) ?_)
          clear st
          intro w20 st
          refine WO_seg 2 [(5, .slice none (List.length ([] : List (Int))) 0), (6, .int .i64 2)] (by kernel_rfl) (by kernel_rfl) ?_
          refine WO_end rfl ?_
          have st := st.front2
          have st := st.tail
          refine X_then ?_
          refine W_ret ?_
          refine X_then_ret ?_
          obtain rfl := Option.some.inj hr
          refine X_ret [.cell 4 24, .tmp 5, .tmp 6] [.agg #[.slice none (List.length ([] : List (ByteArray))) 0], .slice none (List.length ([] : List (Int))) 0, .int .i64 2] rfl (ResAll.cons (ResAt.blk (v := .agg #[.slice none (List.length ([] : List (ByteArray))) 0]) (o := 0) (by kernel_rfl) st.head (by kernel_rfl)) (ResAll.cons (ResAt.tmp (by kernel_rfl)) (ResAll.cons (ResAt.tmp (by kernel_rfl)) ResAll.nil))) ?_
          have st := st.nilroom 9 1
          have st := st.nilroom 3 1
          have st := st.front2
          have st := st.tail
          have st := st.front2
          have st := st.tail
          have st := st.front2
          have st := st.tail
          have st := st.front1
          exact ⟨none, 0, none, 0, m6, rfl, hm, st, (RepS.nil _ _), (RepS.nil _ _)⟩
        · intro hc
          rw [if_neg (not_true hc)] at hr
          refine W_skip ?_
          refine X_then ?_
          refine W_seq ?_
          refine W_region ?_
          refine WO_one rfl (One_load_own (d := 61) (t := 24) (x := (.tmp 9)) (.agg #[.slice a5 (List.length o1.2) c5]) (by kernel_rfl) rfl (show evL _ _ = some (.pointer (some ⟨b4, 0, none⟩)) from (by kernel_rfl)) st.head (by kernel_rfl) ?_)
          refine WO_seg 1 [(62, .slice a4 (List.length o1.1) c4)] (by kernel_rfl) (by kernel_rfl) ?_
          have st := st.front1
          refine WO_one rfl (One_store (t := 24) (x := (.tmp 4)) (y := (.tmp 61)) (v := .agg #[.slice a5 (List.length o1.2) c5]) (c' := #[.slice a5 (List.length o1.2) c5]) (by kernel_rfl) (show evL _ _ = some (.pointer (some ⟨b3, 0, none⟩)) from (by kernel_rfl)) (show evL _ _ = some (.agg #[.slice a5 (List.length o1.2) c5]) from (by kernel_rfl)) st (by kernel_rfl) (by kernel_rfl) ?_)
          clear st
          intro w21 st
          refine WO_seg 2 [(5, .slice a4 (List.length o1.1) c4), (6, .int .i64 0)] (by kernel_rfl) (by kernel_rfl) ?_
          refine WO_end rfl ?_
          refine X_then ?_
          refine W_ret ?_
          obtain rfl := Option.some.inj hr
          refine X_ret [.cell 4 24, .tmp 5, .tmp 6] [.agg #[.slice a5 (List.length o1.2) c5], .slice a4 (List.length o1.1) c4, .int .i64 0] rfl (ResAll.cons (ResAt.blk (v := .agg #[.slice a5 (List.length o1.2) c5]) (o := 0) (by kernel_rfl) st.head (by kernel_rfl)) (ResAll.cons (ResAt.tmp (by kernel_rfl)) (ResAll.cons (ResAt.tmp (by kernel_rfl)) ResAll.nil))) ?_
          have st := st.tail
          have st := st.tail
          have st := st.front1
          exact ⟨a5, c5, a4, c4, m6, rfl, hm, st, r5, r4⟩
      intro K0_u1
      clear hrKu1
      have st := st.nilroom 3 1
      have st := st.front2
      have st := st.front1
      have st := st.front3
      have st := st.front3
      refine W_env _ (by kernel_rfl) (W_loop (fun k1 L' w' => ∃ (s1 : List (Int) × Int × List (ByteArray)) (a6 : Option Addr) (c6 : Nat) (a7 : Option Addr) (c7 : Nat) (m7 : Mem), loopM (testgateref13_Merge_L1 N p1) k1 s1 = some out1 ∧ L' = [(4, .pointer (some ⟨b3, 0, none⟩)), (9, .pointer (some ⟨b4, 0, none⟩)), (10, .slice a6 (List.length s1.1) c6), (31, .slice a2 (List.length p1) c2), (32, .int .i64 (List.length p1 : Int)), (33, .int .i64 s1.2.1)] ∧ m.le m7 ∧ St m7 (.blk b4 (.cells #[.slice a7 (List.length s1.2.2) c7] 24 (0, 0)) :: .blk b3 (.cells #[.slice none (List.length ([] : List (ByteArray))) 0] 24 (0, 0)) :: .room a6 (List.length s1.1) c6 3 1 :: .room a7 (List.length s1.2.2) c7 9 1 :: own) w' ∧ RepS (cInt .i64) m7 a6 c6 s1.1 ∧ RepS cStr m7 a2 c2 p1 ∧ RepS cStr m7 a7 c7 s1.2.2) N ⟨(([] : List (Int)), 0, l1), none, 0, a3, c3, m5, hr, rfl, hm, st, (RepS.nil _ _), r2, r3⟩ ?_)
      clear st hr
      rintro k1 _ w12 ⟨s1, a6, c6, a7, c7, m7, hL, rfl, hm, st, r6, r2, r7⟩
      rcases k1 with _ | k1
      · exact loopM_zero hL
      · obtain ⟨qu1, hr, hSu1, hBu1⟩ := loopM_succ hL
        clear hL
        unfold testgateref13_Merge_L1 at hr
        refine W_seq ?_
        refine W_region ?_
        refine WO_seg 1 [(34, .bool (decide (s1.2.1 < (List.length p1 : Int))))] (by kernel_rfl) (by kernel_rfl) ?_
        refine WO_end rfl ?_
        refine X_then ?_
        refine W_seq ?_
        refine W_cond (decide (s1.2.1 < (List.length p1 : Int))) (by kernel_rfl) ?_ ?_
        · intro hc
          rw [if_pos hc] at hr
          refine W_skip ?_
          refine X_then ?_
          refine W_seq ?_
          refine W_block ?_
          refine W_seq ?_
          refine W_region ?_
          replace hr := bindS hr
          obtain ⟨x1, hx4, hr⟩ := hr
          refine WO_one rfl (One_index (d := 35) (t := 22) (e := 9) (x := (.tmp 31)) (y := (.tmp 33)) cStr (by kernel_rfl) rfl (show evL _ _ = some (.slice a2 (List.length p1) c2) from (by kernel_rfl)) (show evL _ _ = some (.int .i64 s1.2.1) from (by kernel_rfl)) (by kernel_rfl) r2 hx4 ?_)
          rintro b5 f1 cs1 rfl hq1
          refine WO_one rfl (One_load_row (d := 36) (t := 9) (x := (.tmp 35)) (.string x1) (by kernel_rfl) rfl (show evL _ _ = some (.pointer (some ⟨b5, f1, none⟩)) from (by kernel_rfl)) st hq1 (by kernel_rfl) ?_)
          refine WO_seg 1 [(12, .string x1)] (by kernel_rfl) (by kernel_rfl) ?_
          refine WO_end rfl ?_
          refine X_then ?_
          refine W_seq ?_
          refine W_region ?_
          refine WO_one rfl (One_load_own (d := 37) (t := 24) (x := (.tmp 9)) (.agg #[.slice a7 (List.length s1.2.2) c7]) (by kernel_rfl) rfl (show evL _ _ = some (.pointer (some ⟨b4, 0, none⟩)) from (by kernel_rfl)) st.head (by kernel_rfl) ?_)
          refine WO_seg 1 [(38, .string x1)] (by kernel_rfl) (by kernel_rfl) ?_
          replace hr := bindS hr
          obtain ⟨y3, hx5, hr⟩ := hr
          refine WO_one rfl (One_fn 39 65 #[.agg #[.slice a7 (List.length s1.2.2) c7], .string x1] (by kernel_rfl) rfl ?_)
          refine (testgateref13_find_ok st r7 hx5).mono ?_
          clear st
          rintro _ w13 ⟨m8, rfl, hle6, st⟩
          refine ⟨_, rfl, ?_⟩
          have hm := Mem.le_trans hm hle6
          have r6 := r6.mono hle6
          have r2 := r2.mono hle6
          have r7 := r7.mono hle6
          refine WO_seg 1 [(13, .int .i64 y3)] (by kernel_rfl) (by kernel_rfl) ?_
          refine WO_end rfl ?_
          refine X_then ?_
          refine W_seq ?_
          refine W_seq ?_
          refine W_region ?_
          refine WO_seg 2 [(41, .bool (decide (y3 < 0)))] (by kernel_rfl) (by kernel_rfl) ?_
          refine WO_end rfl ?_
          refine X_then ?_
          replace hr := bindS hr
          obtain ⟨o2, hr, hrKu2⟩ := hr
          refine W_cut .normal (fun L' w' => ∃ (a8 : Option Addr) (c8 : Nat) (m9 : Mem), L' = [(4, .pointer (some ⟨b3, 0, none⟩)), (9, .pointer (some ⟨b4, 0, none⟩)), (10, .slice a6 (List.length s1.1) c6), (13, .int .i64 o2.1), (31, .slice a2 (List.length p1) c2), (32, .int .i64 (List.length p1 : Int)), (33, .int .i64 s1.2.1)] ∧ m.le m9 ∧ St m9 (.blk b4 (.cells #[.slice a8 (List.length o2.2) c8] 24 (0, 0)) :: .blk b3 (.cells #[.slice none (List.length ([] : List (ByteArray))) 0] 24 (0, 0)) :: .room a6 (List.length s1.1) c6 3 1 :: .room a8 (List.length o2.2) c8 9 1 :: own) w' ∧ RepS (cInt .i64) m9 a6 c6 s1.1 ∧ RepS cStr m9 a2 c2 p1 ∧ RepS cStr m9 a8 c8 o2.2) ?_ ?_
          · clear hr st
            have hr := hrKu2
            clear hrKu2
            rintro _ w14 ⟨a8, c8, m9, rfl, hm, st, r6, r2, r8⟩
            refine X_then ?_
            refine W_region ?_
            refine WO_seg 2 [(51, .slice a6 (List.length s1.1) c6), (52, .int .i64 o2.1)] (by kernel_rfl) (by kernel_rfl) ?_
            refine WO_one rfl (One_buildSlice (d := 53) (t := 32) (e := 3) (len := 1) (parts := #[(0, (.tmp 52))]) (cInt .i64) (xs := [o2.1]) [.int .i64 o2.1] (by kernel_rfl) rfl (fun _ => buildCells_run (by kernel_rfl) _) rfl rfl st ⟨[.int .i64 o2.1], _, rfl, rfl, rfl⟩ ?_)
            clear st
            intro b7 m12 w18 hle9 st r11
            have hm := Mem.le_trans hm hle9
            have r6 := r6.mono hle9
            have r2 := r2.mono hle9
            have r8 := r8.mono hle9
            have st := st.front3
            replace hr := bindS hr
            obtain ⟨l3, hx7, hr⟩ := hr
            refine WO_one rfl (One_append (d := 54) (t := 32) (u := 32) (e := 3) (by_ := 8) (x := (.tmp 51)) (y := (.tmp 53)) (cInt .i64) (by kernel_rfl) rfl (show evL _ _ = some (.slice a6 (List.length s1.1) c6) from (by kernel_rfl)) (show evL _ _ = some (.slice (some ⟨b7, 0, none⟩) (List.length ([o2.1])) 1) from (by kernel_rfl)) st (by kernel_rfl) (.inl (by kernel_rfl)) r6 r11.src hx7 ?_)
            clear st
            intro a10 c10 m13 w19 hle10 st r12
            have hm := Mem.le_trans hm hle10
            have r6 := r6.mono hle10
            have r2 := r2.mono hle10
            have r11 := r11.mono hle10
            have r8 := r8.mono hle10
            refine WO_seg 1 [(10, .slice a10 (List.length l3) c10)] (by kernel_rfl) (by kernel_rfl) ?_
            refine WO_end rfl ?_
            have st := st.front1
            have st := st.tail
            refine X_block ?_
            refine X_then ?_
            refine W_region ?_
            refine WO_seg 2 [(33, .int .i64 (IntKind.wrap .i64 (s1.2.1 + 1)))] (by kernel_rfl) (by kernel_rfl) ?_
            refine WO_end rfl ?_
            obtain rfl := Option.some.inj hr
            have hL := hSu1 _ rfl
            have st := st.front3
            have st := st.front1
            have st := st.front3
            have st := st.front3
            exact X_env _ (by kernel_rfl) (X_round k1 (Nat.lt_succ_self _) ⟨(l3, IntKind.wrap .i64 (s1.2.1 + 1), o2.2), a10, c10, a8, c8, m13, hL, rfl, hm, st, r12, r2, r8⟩)
          · intro Ku2
            clear hrKu2
            refine W_cond (decide (y3 < 0)) (by kernel_rfl) ?_ ?_
            · intro hc
              rw [if_pos hc] at hr
              refine W_seq ?_
              refine W_region ?_
              refine WO_seg 1 [(42, .pointer (some ⟨b4, 0, none⟩))] (by kernel_rfl) (by kernel_rfl) ?_
              refine WO_one rfl (One_load_own (d := 43) (t := 22) (x := (.tmp 42)) (.slice a7 (List.length s1.2.2) c7) (by kernel_rfl) rfl (show evL _ _ = some (.pointer (some ⟨b4, 0, none⟩)) from (by kernel_rfl)) st.head (by kernel_rfl) ?_)
              refine WO_seg 2 [(13, .int .i64 (List.length s1.2.2 : Int))] (by kernel_rfl) (by kernel_rfl) ?_
              refine WO_end rfl ?_
              refine X_then ?_
              refine W_region ?_
              refine WO_seg 1 [(45, .pointer (some ⟨b4, 0, none⟩))] (by kernel_rfl) (by kernel_rfl) ?_
              refine WO_one rfl (One_load_own (d := 46) (t := 22) (x := (.tmp 45)) (.slice a7 (List.length s1.2.2) c7) (by kernel_rfl) rfl (show evL _ _ = some (.pointer (some ⟨b4, 0, none⟩)) from (by kernel_rfl)) st.head (by kernel_rfl) ?_)
              refine WO_seg 1 [(47, .string x1)] (by kernel_rfl) (by kernel_rfl) ?_
              refine WO_one rfl (One_buildSlice (d := 48) (t := 22) (e := 9) (len := 1) (parts := #[(0, (.tmp 47))]) cStr (xs := [x1]) [.string x1] (by kernel_rfl) rfl (fun _ => buildCells_run (by kernel_rfl) _) rfl rfl st ⟨[.string x1], _, rfl, rfl, rfl⟩ ?_)
              clear st
              intro b6 m10 w15 hle7 st r9
              have hm := Mem.le_trans hm hle7
              have r6 := r6.mono hle7
              have r2 := r2.mono hle7
              have r7 := r7.mono hle7
              have st := st.front4
              replace hr := bindS hr
              obtain ⟨l2, hx6, hr⟩ := hr
              refine WO_one rfl (One_append (d := 49) (t := 22) (u := 22) (e := 9) (by_ := 16) (x := (.tmp 46)) (y := (.tmp 48)) cStr (by kernel_rfl) rfl (show evL _ _ = some (.slice a7 (List.length s1.2.2) c7) from (by kernel_rfl)) (show evL _ _ = some (.slice (some ⟨b6, 0, none⟩) (List.length ([x1])) 1) from (by kernel_rfl)) st (by kernel_rfl) (.inl (by kernel_rfl)) r7 r9.src hx6 ?_)
              clear st
              intro a9 c9 m11 w16 hle8 st r10
              have hm := Mem.le_trans hm hle8
              have r6 := r6.mono hle8
              have r2 := r2.mono hle8
              have r7 := r7.mono hle8
              have r9 := r9.mono hle8
              refine WO_seg 1 [(50, .pointer (some ⟨b4, 0, none⟩))] (by kernel_rfl) (by kernel_rfl) ?_
              have st := st.front2
              refine WO_one rfl (One_store (t := 22) (x := (.tmp 50)) (y := (.tmp 49)) (v := .slice a9 (List.length l2) c9) (c' := #[.slice a9 (List.length l2) c9]) (by kernel_rfl) (show evL _ _ = some (.pointer (some ⟨b4, 0, none⟩)) from (by kernel_rfl)) (show evL _ _ = some (.slice a9 (List.length l2) c9) from (by kernel_rfl)) st (by kernel_rfl) (by kernel_rfl) ?_)
              clear st
              intro w17 st
              refine WO_end rfl ?_
              have st := st.front2
              have st := st.tail
              obtain rfl := Option.some.inj hr
              have st := st.front1
              have st := st.front3
              have st := st.front3
              have st := st.front3
              exact X_env _ (by kernel_rfl) (Ku2 _ _ ⟨a9, c9, m11, rfl, hm, st, r6, r2, r10⟩)
            · intro hc
              rw [if_neg (not_true hc)] at hr
              refine W_skip ?_
              obtain rfl := Option.some.inj hr
              have st := st.front3
              have st := st.front3
              have st := st.front3
              have st := st.front3
              exact X_env _ (by kernel_rfl) (Ku2 _ _ ⟨a7, c7, m8, rfl, hm, st, r6, r2, r7⟩)
        · intro hc
          rw [if_neg (not_true hc)] at hr
          refine W_exit ?_
          refine X_then_exit ?_
          obtain rfl := Option.some.inj hr
          have ho := hBu1 _ rfl
          have st := st.front3
          have st := st.front3
          have st := st.front3
          have st := st.front3
          refine X_then_exit ?_
          exact X_env _ (by kernel_rfl) (K0_u1 _ _ ⟨(s1.1, s1.2.2), a6, c6, a7, c7, m7, ho, rfl, hm, st, r6, r7⟩)

end Go.Proofs.Ytgkjigejejofkaa
