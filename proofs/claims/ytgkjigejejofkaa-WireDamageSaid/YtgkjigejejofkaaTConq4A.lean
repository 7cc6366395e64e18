/- MADE BY gen.py: plain functions and the proofs that the Go functions compute them. No condition but those of each theorem. -/
import Derived.Test.YtgkjigejejofkaaProg
import Derived.Test.YtgkjigejejofkaaMap
namespace Go.Proofs.Ytgkjigejejofkaa
open Go Go.Dc

def wire_PutUint_L1 (N : Nat) (s1 : Int × List (UInt8)) : Option ((Int × List (UInt8)) ⊕ ((Int × List (UInt8)))) :=
  if (decide (s1.1 ≥ 128)) = true then ((appendS 1 s1.2 ([toU8 (iOr .u8 (IntKind.wrap .u8 s1.1) 128)])).bind fun l2 => some (.inl (Int.fdiv s1.1 (2 ^ 7), l2))) else (some (.inr (s1.1, s1.2)))

def wire_PutUint (N : Nat) (p0 : List UInt8) (p1 : Int) : Option (List UInt8) :=
  (appendS 1 ([] : List (UInt8)) p0).bind fun l1 => (loopM (wire_PutUint_L1 N) N (p1, l1)).bind fun o1 => (appendS 1 o1.2 ([toU8 (IntKind.wrap .u8 o1.1)])).bind fun l3 => some l3

set_option maxHeartbeats 4000000 in
set_option maxRecDepth 100000 in
theorem wire_PutUint_ok {N : Nat} {m : Mem} {own : List Piece} {w : World} {p0 : List UInt8} {p1 : Int} {a1 : Option Addr} {c1 : Nat} {r : List UInt8} (st : St m (own) w) (r1 : RepS cU8 m a1 c1 p0) (hr : wire_PutUint N p0 p1 = some r) : Calls Go.Proofs.Try.prog 45 #[.slice a1 (List.length p0) c1, .int .u64 p1] w fun e w' => ∃ (ra1 : Option Addr) (rc1 : Nat) (m' : Mem), e = .returned (.slice ra1 (List.length r) rc1) ∧ m.le m' ∧ St m' (.room ra1 (List.length r) rc1 5 1 :: own) w' ∧ RepS cU8 m' ra1 rc1 r := by
  unfold wire_PutUint at hr
  have hm := m.le_refl
  refine W_calls Go.Proofs.Try.func45 rfl Go.Proofs.Try.ntmps45 [(0, .slice a1 (List.length p0) c1), (1, .int .u64 p1)] (by kernel_rfl) rfl ?_
  refine W_seq ?_
  refine W_region ?_
  refine WO_seg 1 [] (by kernel_rfl) (by kernel_rfl) ?_
  refine WO_end rfl ?_
  refine X_then ?_
  refine W_seq ?_
  refine W_region ?_
  refine WO_seg 1 [(6, .slice a1 (List.length p0) c1)] (by kernel_rfl) (by kernel_rfl) ?_
  have st := st.nilroom 5 1
  replace hr := bindS hr
  obtain ⟨l1, hx1, hr⟩ := hr
  refine WO_one rfl (One_append (d := 7) (t := 50) (u := 50) (e := 5) (by_ := 1) (x := (.const (.slice none 0 0))) (y := (.tmp 6)) cU8 (by kernel_rfl) rfl (show evL _ _ = some (.slice none (List.length ([] : List (UInt8))) 0) from (by kernel_rfl)) (show evL _ _ = some (.slice a1 (List.length p0) c1) from (by kernel_rfl)) st (by kernel_rfl) (.inl (by kernel_rfl)) (RepS.nil _ _) r1.src hx1 ?_)
  clear st
  intro a2 c2 m1 w1 hle1 st r2
  have hm := Mem.le_trans hm hle1
  have r1 := r1.mono hle1
  refine WO_seg 1 [(5, .slice a2 (List.length l1) c2)] (by kernel_rfl) (by kernel_rfl) ?_
  refine WO_end rfl ?_
  refine X_then ?_
  refine W_seq ?_
  refine W_block ?_
  replace hr := bindS hr
  obtain ⟨out1, hr, hrKu1⟩ := hr
  refine W_cut (.exit 0) (fun L' w' => ∃ (o1 : Int × List (UInt8)) (a3 : Option Addr) (c3 : Nat) (m2 : Mem), o1 = out1 ∧ L' = [(1, .int .u64 o1.1), (5, .slice a3 (List.length o1.2) c3)] ∧ m.le m2 ∧ St m2 (.room a3 (List.length o1.2) c3 5 1 :: own) w' ∧ RepS cU8 m2 a3 c3 o1.2) ?_ ?_
  · clear hr st
    rintro _ w2 ⟨o1, a3, c3, m2, rfl, rfl, hm, st, r3⟩
    have hr := hrKu1
    clear hrKu1
    refine X_block_eq ?_
    refine X_then ?_
    refine W_seq ?_
    refine W_region ?_
    refine WO_seg 3 [(18, .slice a3 (List.length o1.2) c3), (20, .int .u8 (IntKind.wrap .u8 o1.1))] (by kernel_rfl) (by kernel_rfl) ?_
    refine WO_one rfl (One_buildSlice (d := 21) (t := 50) (e := 5) (len := 1) (parts := #[(0, (.tmp 20))]) cU8 (xs := [toU8 (IntKind.wrap .u8 o1.1)]) [.int .u8 (IntKind.wrap .u8 o1.1)] (by kernel_rfl) rfl (fun _ => buildCells_run (by kernel_rfl) _) rfl rfl st ⟨[.int .u8 (IntKind.wrap .u8 o1.1)], _, rfl, (rep_u8_wrap _), rfl⟩ ?_)
    clear st
    intro b2 m6 w6 hle4 st r7
    have hm := Mem.le_trans hm hle4
    have r3 := r3.mono hle4
    have st := st.front1
    replace hr := bindS hr
    obtain ⟨l3, hx3, hr⟩ := hr
    refine WO_one rfl (One_append (d := 22) (t := 50) (u := 50) (e := 5) (by_ := 1) (x := (.tmp 18)) (y := (.tmp 21)) cU8 (by kernel_rfl) rfl (show evL _ _ = some (.slice a3 (List.length o1.2) c3) from (by kernel_rfl)) (show evL _ _ = some (.slice (some ⟨b2, 0, none⟩) (List.length ([toU8 (IntKind.wrap .u8 o1.1)])) 1) from (by kernel_rfl)) st (by kernel_rfl) (.inl (by kernel_rfl)) r3 r7.src hx3 ?_)
    clear st
    intro a6 c6 m7 w7 hle5 st r8
    have hm := Mem.le_trans hm hle5
    have r3 := r3.mono hle5
    have r7 := r7.mono hle5
    refine WO_seg 1 [(4, .slice a6 (List.length l3) c6)] (by kernel_rfl) (by kernel_rfl) ?_
    refine WO_end rfl ?_
    have st := st.front1
    have st := st.tail
    refine X_then ?_
    refine W_ret ?_
    obtain rfl := Option.some.inj hr
    refine X_ret [.tmp 4] [.slice a6 (List.length l3) c6] rfl (ResAll.cons (ResAt.tmp (by kernel_rfl)) ResAll.nil) ?_
    exact ⟨a6, c6, m7, rfl, hm, st, r8⟩
  intro K0_u1
  clear hrKu1
  refine W_env _ (by kernel_rfl) (W_loop (fun k1 L' w' => ∃ (s1 : Int × List (UInt8)) (a4 : Option Addr) (c4 : Nat) (m3 : Mem), loopM (wire_PutUint_L1 N) k1 s1 = some out1 ∧ L' = [(1, .int .u64 s1.1), (5, .slice a4 (List.length s1.2) c4)] ∧ m.le m3 ∧ St m3 (.room a4 (List.length s1.2) c4 5 1 :: own) w' ∧ RepS cU8 m3 a4 c4 s1.2) N ⟨(p1, l1), a2, c2, m1, hr, rfl, hm, st, r2⟩ ?_)
  clear st hr
  rintro k1 _ w3 ⟨s1, a4, c4, m3, hL, rfl, hm, st, r4⟩
  rcases k1 with _ | k1
  · exact loopM_zero hL
  · obtain ⟨qu1, hr, hSu1, hBu1⟩ := loopM_succ hL
    clear hL
    unfold wire_PutUint_L1 at hr
    refine W_seq ?_
    refine W_seq ?_
    refine W_region ?_
    refine WO_seg 2 [(9, .bool (decide (s1.1 ≥ 128)))] (by kernel_rfl) (by kernel_rfl) ?_
    refine WO_end rfl ?_
    refine X_then ?_
    refine W_cond (decide (s1.1 ≥ 128)) (by kernel_rfl) ?_ ?_
    · intro hc
      rw [if_pos hc] at hr
      refine W_skip ?_
      refine X_then ?_
      refine W_block ?_
      refine W_seq ?_
      refine W_region ?_
      refine WO_seg 4 [(10, .slice a4 (List.length s1.2) c4), (13, .int .u8 (iOr .u8 (IntKind.wrap .u8 s1.1) 128))] (by kernel_rfl) (by kernel_rfl) ?_
      refine WO_one rfl (One_buildSlice (d := 14) (t := 50) (e := 5) (len := 1) (parts := #[(0, (.tmp 13))]) cU8 (xs := [toU8 (iOr .u8 (IntKind.wrap .u8 s1.1) 128)]) [.int .u8 (iOr .u8 (IntKind.wrap .u8 s1.1) 128)] (by kernel_rfl) rfl (fun _ => buildCells_run (by kernel_rfl) _) rfl rfl st ⟨[.int .u8 (iOr .u8 (IntKind.wrap .u8 s1.1) 128)], _, rfl, (rep_u8_wrap _), rfl⟩ ?_)
      clear st
      intro b1 m4 w4 hle2 st r5
      have hm := Mem.le_trans hm hle2
      have r4 := r4.mono hle2
      have st := st.front1
      replace hr := bindS hr
      obtain ⟨l2, hx2, hr⟩ := hr
      refine WO_one rfl (One_append (d := 15) (t := 50) (u := 50) (e := 5) (by_ := 1) (x := (.tmp 10)) (y := (.tmp 14)) cU8 (by kernel_rfl) rfl (show evL _ _ = some (.slice a4 (List.length s1.2) c4) from (by kernel_rfl)) (show evL _ _ = some (.slice (some ⟨b1, 0, none⟩) (List.length ([toU8 (iOr .u8 (IntKind.wrap .u8 s1.1) 128)])) 1) from (by kernel_rfl)) st (by kernel_rfl) (.inl (by kernel_rfl)) r4 r5.src hx2 ?_)
      clear st
      intro a5 c5 m5 w5 hle3 st r6
      have hm := Mem.le_trans hm hle3
      have r4 := r4.mono hle3
      have r5 := r5.mono hle3
      refine WO_seg 1 [(5, .slice a5 (List.length l2) c5)] (by kernel_rfl) (by kernel_rfl) ?_
      refine WO_end rfl ?_
      have st := st.front1
      have st := st.tail
      refine X_then ?_
      refine W_region ?_
      refine WO_seg 3 [(1, .int .u64 (Int.fdiv s1.1 (2 ^ 7)))] (by kernel_rfl) (by kernel_rfl) ?_
      refine WO_end rfl ?_
      refine X_block ?_
      obtain rfl := Option.some.inj hr
      have hL := hSu1 _ rfl
      exact X_env _ (by kernel_rfl) (X_round k1 (Nat.lt_succ_self _) ⟨(Int.fdiv s1.1 (2 ^ 7), l2), a5, c5, m5, hL, rfl, hm, st, r6⟩)
    · intro hc
      rw [if_neg (not_true hc)] at hr
      refine W_exit ?_
      refine X_then_exit ?_
      obtain rfl := Option.some.inj hr
      have ho := hBu1 _ rfl
      refine X_then_exit ?_
      exact X_env _ (by kernel_rfl) (K0_u1 _ _ ⟨(s1.1, s1.2), a4, c4, m3, ho, rfl, hm, st, r4⟩)

def wire_Checksum_L1 (N : Nat) (p0 : List UInt8) (s1 : Int × Int × Int) : Option ((Int × Int × Int) ⊕ ((Int × Int))) :=
  if (decide (s1.2.2 < (List.length p0 : Int))) = true then ((idx p0 s1.2.2).bind fun x1 => some (.inl (Int.tmod (IntKind.wrap .u32 (s1.1 + (IntKind.wrap .u32 (x1.toNat : Int)))) 65521, Int.tmod (IntKind.wrap .u32 (s1.2.1 + (Int.tmod (IntKind.wrap .u32 (s1.1 + (IntKind.wrap .u32 (x1.toNat : Int)))) 65521))) 65521, IntKind.wrap .i64 (s1.2.2 + 1)))) else (some (.inr (s1.1, s1.2.1)))

def wire_Checksum (N : Nat) (p0 : List UInt8) : Option (Int) :=
  (loopM (wire_Checksum_L1 N p0) N (1, 0, 0)).bind fun o1 => some (IntKind.wrap .u32 (o1.1 + (IntKind.wrap .u32 (o1.2 * 2 ^ 16))))

set_option maxHeartbeats 4000000 in
set_option maxRecDepth 100000 in
theorem wire_Checksum_ok {N : Nat} {m : Mem} {own : List Piece} {w : World} {p0 : List UInt8} {a1 : Option Addr} {c1 : Nat} {r : Int} (st : St m (own) w) (r1 : RepS cU8 m a1 c1 p0) (hr : wire_Checksum N p0 = some r) : Calls Go.Proofs.Try.prog 34 #[.slice a1 (List.length p0) c1] w fun e w' => ∃ (m' : Mem), e = .returned (.int .u32 r) ∧ m.le m' ∧ St m' (own) w' := by
  unfold wire_Checksum at hr
  have hm := m.le_refl
  refine W_calls Go.Proofs.Try.func34 rfl Go.Proofs.Try.ntmps34 [(0, .slice a1 (List.length p0) c1)] (by kernel_rfl) rfl ?_
  refine W_seq ?_
  refine W_region ?_
  refine WO_seg 1 [] (by kernel_rfl) (by kernel_rfl) ?_
  refine WO_end rfl ?_
  refine X_then ?_
  refine W_seq ?_
  refine W_region ?_
  refine WO_seg 2 [(3, .int .u32 1), (4, .int .u32 0)] (by kernel_rfl) (by kernel_rfl) ?_
  refine WO_end rfl ?_
  refine X_then ?_
  refine W_seq ?_
  refine W_seq ?_
  refine W_region ?_
  refine WO_seg 3 [(7, .slice a1 (List.length p0) c1), (8, .int .i64 (List.length p0 : Int)), (9, .int .i64 0)] (by kernel_rfl) (by kernel_rfl) ?_
  refine WO_end rfl ?_
  refine X_then ?_
  refine W_block ?_
  replace hr := bindS hr
  obtain ⟨out1, hr, hrKu1⟩ := hr
  refine W_cut (.exit 0) (fun L' w' => ∃ (o1 : Int × Int) (m1 : Mem), o1 = out1 ∧ L' = [(3, .int .u32 o1.1), (4, .int .u32 o1.2)] ∧ m.le m1 ∧ St m1 (own) w') ?_ ?_
  · clear hr st
    rintro _ w1 ⟨o1, m1, rfl, rfl, hm, st⟩
    have hr := hrKu1
    clear hrKu1
    refine X_block_eq ?_
    refine X_then ?_
    refine W_seq ?_
    refine W_region ?_
    refine WO_seg 5 [(2, .int .u32 (IntKind.wrap .u32 (o1.1 + (IntKind.wrap .u32 (o1.2 * 2 ^ 16)))))] (by kernel_rfl) (by kernel_rfl) ?_
    refine WO_end rfl ?_
    refine X_then ?_
    refine W_ret ?_
    obtain rfl := Option.some.inj hr
    refine X_ret [.tmp 2] [.int .u32 (IntKind.wrap .u32 (o1.1 + (IntKind.wrap .u32 (o1.2 * 2 ^ 16))))] rfl (ResAll.cons (ResAt.tmp (by kernel_rfl)) ResAll.nil) ?_
    exact ⟨m1, rfl, hm, st⟩
  intro K0_u1
  clear hrKu1
  refine W_env _ (by kernel_rfl) (W_loop (fun k1 L' w' => ∃ (s1 : Int × Int × Int) (m2 : Mem), loopM (wire_Checksum_L1 N p0) k1 s1 = some out1 ∧ L' = [(3, .int .u32 s1.1), (4, .int .u32 s1.2.1), (7, .slice a1 (List.length p0) c1), (8, .int .i64 (List.length p0 : Int)), (9, .int .i64 s1.2.2)] ∧ m.le m2 ∧ St m2 (own) w' ∧ RepS cU8 m2 a1 c1 p0) N ⟨(1, 0, 0), m, hr, rfl, hm, st, r1⟩ ?_)
  clear st hr
  rintro k1 _ w2 ⟨s1, m2, hL, rfl, hm, st, r1⟩
  rcases k1 with _ | k1
  · exact loopM_zero hL
  · obtain ⟨qu1, hr, hSu1, hBu1⟩ := loopM_succ hL
    clear hL
    unfold wire_Checksum_L1 at hr
    refine W_seq ?_
    refine W_region ?_
    refine WO_seg 1 [(10, .bool (decide (s1.2.2 < (List.length p0 : Int))))] (by kernel_rfl) (by kernel_rfl) ?_
    refine WO_end rfl ?_
    refine X_then ?_
    refine W_seq ?_
    refine W_cond (decide (s1.2.2 < (List.length p0 : Int))) (by kernel_rfl) ?_ ?_
    · intro hc
      rw [if_pos hc] at hr
      refine W_skip ?_
      refine X_then ?_
      refine W_seq ?_
      refine W_block ?_
      refine W_seq ?_
      refine W_region ?_
      replace hr := bindS hr
      obtain ⟨x1, hx1, hr⟩ := hr
      refine WO_one rfl (One_index (d := 11) (t := 50) (e := 5) (x := (.tmp 7)) (y := (.tmp 9)) cU8 (by kernel_rfl) rfl (show evL _ _ = some (.slice a1 (List.length p0) c1) from (by kernel_rfl)) (show evL _ _ = some (.int .i64 s1.2.2) from (by kernel_rfl)) (by kernel_rfl) r1 hx1 ?_)
      rintro b1 f1 cs1 rfl hq1
      refine WO_one rfl (One_load_row (d := 12) (t := 5) (x := (.tmp 11)) (.int .u8 (x1.toNat : Int)) (by kernel_rfl) rfl (show evL _ _ = some (.pointer (some ⟨b1, f1, none⟩)) from (by kernel_rfl)) st hq1 (by kernel_rfl) ?_)
      refine WO_seg 1 [(6, .int .u8 (x1.toNat : Int))] (by kernel_rfl) (by kernel_rfl) ?_
      refine WO_end rfl ?_
      refine X_then ?_
      refine W_seq ?_
      refine W_region ?_
      refine WO_seg 6 [(3, .int .u32 (Int.tmod (IntKind.wrap .u32 (s1.1 + (IntKind.wrap .u32 (x1.toNat : Int)))) 65521))] (by kernel_rfl) (by kernel_rfl) ?_
      refine WO_end rfl ?_
      refine X_then ?_
      refine W_region ?_
      refine WO_seg 5 [(4, .int .u32 (Int.tmod (IntKind.wrap .u32 (s1.2.1 + (Int.tmod (IntKind.wrap .u32 (s1.1 + (IntKind.wrap .u32 (x1.toNat : Int)))) 65521))) 65521))] (by kernel_rfl) (by kernel_rfl) ?_
      refine WO_end rfl ?_
      refine X_block ?_
      refine X_then ?_
      refine W_region ?_
      refine WO_seg 2 [(9, .int .i64 (IntKind.wrap .i64 (s1.2.2 + 1)))] (by kernel_rfl) (by kernel_rfl) ?_
      refine WO_end rfl ?_
      obtain rfl := Option.some.inj hr
      have hL := hSu1 _ rfl
      exact X_env _ (by kernel_rfl) (X_round k1 (Nat.lt_succ_self _) ⟨(Int.tmod (IntKind.wrap .u32 (s1.1 + (IntKind.wrap .u32 (x1.toNat : Int)))) 65521, Int.tmod (IntKind.wrap .u32 (s1.2.1 + (Int.tmod (IntKind.wrap .u32 (s1.1 + (IntKind.wrap .u32 (x1.toNat : Int)))) 65521))) 65521, IntKind.wrap .i64 (s1.2.2 + 1)), m2, hL, rfl, hm, st, r1⟩)
    · intro hc
      rw [if_neg (not_true hc)] at hr
      refine W_exit ?_
      refine X_then_exit ?_
      obtain rfl := Option.some.inj hr
      have ho := hBu1 _ rfl
      refine X_then_exit ?_
      exact X_env _ (by kernel_rfl) (K0_u1 _ _ ⟨(s1.1, s1.2.1), m2, ho, rfl, hm, st⟩)

def wire_Frame (N : Nat) (p0 : Int × List UInt8) : Option (List UInt8 × Int) :=
  (if (decide (p0.1 < 1)) = true then (some true) else (some (decide (p0.1 > 255))) : Option (Bool)).bind fun o1 => if o1 = true then (some (([] : List (UInt8)), 3)) else (if (decide ((List.length p0.2 : Int) > 2097152)) = true then (some (([] : List (UInt8)), 2)) else ((wire_PutUint N ([(247 : UInt8), toU8 (IntKind.wrap .u8 p0.1)]) (IntKind.wrap .u64 (List.length p0.2 : Int))).bind fun y1 => (appendS 1 y1 p0.2).bind fun l1 => (subS l1 1 (List.length l1 : Int)).bind fun l2 => (wire_Checksum N l2).bind fun y2 => (appendS 1 l1 ([toU8 (IntKind.wrap .u8 y2), toU8 (IntKind.wrap .u8 (Int.fdiv y2 (2 ^ 8))), toU8 (IntKind.wrap .u8 (Int.fdiv y2 (2 ^ 16))), toU8 (IntKind.wrap .u8 (Int.fdiv y2 (2 ^ 24)))])).bind fun l3 => some (l3, 0)))

set_option maxHeartbeats 4000000 in
set_option maxRecDepth 100000 in
theorem wire_Frame_ok {N : Nat} {m : Mem} {own : List Piece} {w : World} {p0 : Int × List UInt8} {a1 : Option Addr} {c1 : Nat} {r : List UInt8 × Int} (st : St m (own) w) (r1 : RepS cU8 m a1 c1 p0.2) (hr : wire_Frame N p0 = some r) : Calls Go.Proofs.Try.prog 31 #[.agg #[.int .i64 p0.1, .slice a1 (List.length p0.2) c1]] w fun e w' => ∃ (ra1 : Option Addr) (rc1 : Nat) (m' : Mem), e = .returned (.tuple #[.slice ra1 (List.length r.1) rc1, .int .i64 r.2]) ∧ m.le m' ∧ St m' (.room ra1 (List.length r.1) rc1 5 1 :: own) w' ∧ RepS cU8 m' ra1 rc1 r.1 := by
  unfold wire_Frame at hr
  have hm := m.le_refl
  refine W_calls Go.Proofs.Try.func31 rfl Go.Proofs.Try.ntmps31 [(0, .agg #[.int .i64 p0.1, .slice a1 (List.length p0.2) c1])] (by kernel_rfl) rfl ?_
  refine W_seq ?_
  refine W_region ?_
  refine WO_one rfl (One_box (d := 1) (e := 54) (x := (.tmp 0)) (.agg #[.int .i64 p0.1, .slice a1 (List.length p0.2) c1]) (by kernel_rfl) rfl (by kernel_rfl) st ?_)
  clear st
  intro b1 m1 w1 hle1 st hb1
  have hm := Mem.le_trans hm hle1
  have r1 := r1.mono hle1
  refine WO_seg 2 [] (by kernel_rfl) (by kernel_rfl) ?_
  refine WO_end rfl ?_
  refine X_then ?_
  refine W_seq ?_
  refine W_seq ?_
  refine W_region ?_
  replace hr := bindS hr
  obtain ⟨o1, hr, hrK⟩ := hr
  refine WO_cut (j := 8) (fun L' w' => ∃ (m2 : Mem), L' = [(1, .pointer (some ⟨b1, 0, none⟩)), (13, .bool o1)] ∧ m.le m2 ∧ St m2 (own) w' ∧ MRow m2 b1 0 [.int .i64 p0.1, .slice a1 (List.length p0.2) c1] ∧ RepS cU8 m2 a1 c1 p0.2) ?_ ?_
  · clear hr st
    have hr := hrK
    clear hrK
    rintro _ w2 ⟨m2, rfl, hm, st, hb1, r1⟩
    refine WO_end rfl ?_
    refine X_then ?_
    refine W_cond o1 (by kernel_rfl) ?_ ?_
    · intro hc
      rw [if_pos hc] at hr
      refine W_seq ?_
      refine W_region ?_
      refine WO_seg 2 [(2, .slice none (List.length ([] : List (UInt8))) 0), (3, .int .i64 3)] (by kernel_rfl) (by kernel_rfl) ?_
      refine WO_end rfl ?_
      refine X_then ?_
      refine W_ret ?_
      refine X_then_ret ?_
      obtain rfl := Option.some.inj hr
      refine X_ret [.tmp 2, .tmp 3] [.slice none (List.length ([] : List (UInt8))) 0, .int .i64 3] rfl (ResAll.cons (ResAt.tmp (by kernel_rfl)) (ResAll.cons (ResAt.tmp (by kernel_rfl)) ResAll.nil)) ?_
      have st := st.nilroom 5 1
      exact ⟨none, 0, m2, rfl, hm, st, (RepS.nil _ _)⟩
    · intro hc
      rw [if_neg (not_true hc)] at hr
      refine W_skip ?_
      refine X_then ?_
      refine W_seq ?_
      refine W_seq ?_
      refine W_region ?_
      refine WO_seg 1 [(14, .pointer (some ⟨b1, 1, none⟩))] (by kernel_rfl) (by kernel_rfl) ?_
      refine WO_one rfl (One_load_row (d := 15) (t := 50) (x := (.tmp 14)) (.slice a1 (List.length p0.2) c1) (by kernel_rfl) rfl (show evL _ _ = some (.pointer (some ⟨b1, 1, none⟩)) from (by kernel_rfl)) st (hb1.drop 1) (by kernel_rfl) ?_)
      refine WO_seg 2 [(17, .bool (decide ((List.length p0.2 : Int) > 2097152)))] (by kernel_rfl) (by kernel_rfl) ?_
      refine WO_end rfl ?_
      refine X_then ?_
      refine W_cond (decide ((List.length p0.2 : Int) > 2097152)) (by kernel_rfl) ?_ ?_
      · intro hc
        rw [if_pos hc] at hr
        refine W_seq ?_
        refine W_region ?_
        refine WO_seg 2 [(2, .slice none (List.length ([] : List (UInt8))) 0), (3, .int .i64 2)] (by kernel_rfl) (by kernel_rfl) ?_
        refine WO_end rfl ?_
        refine X_then ?_
        refine W_ret ?_
        refine X_then_ret ?_
        obtain rfl := Option.some.inj hr
        refine X_ret [.tmp 2, .tmp 3] [.slice none (List.length ([] : List (UInt8))) 0, .int .i64 2] rfl (ResAll.cons (ResAt.tmp (by kernel_rfl)) (ResAll.cons (ResAt.tmp (by kernel_rfl)) ResAll.nil)) ?_
        have st := st.nilroom 5 1
        exact ⟨none, 0, m2, rfl, hm, st, (RepS.nil _ _)⟩
      · intro hc
        rw [if_neg (not_true hc)] at hr
        refine W_skip ?_
        refine X_then ?_
        refine W_seq ?_
        refine W_draw [(13, fun w' => Inv m2 w' ∧ True)] (by kernel_rfl) st ?_
        clear st
        intro w3 _ st
        have hmS := m2.le_refl
        refine ⟨⟨.inr ⟨Inv.anti st.inv hmS, trivial⟩, trivial⟩, ?_⟩
        refine WA_pure 0 18 (.pointer (some ⟨b1, 0, none⟩)) (by kernel_rfl) rfl (by kernel_rfl) (.head _) (QP_then QP_body) ?_
        refine WA_load_row (t := 3) (x := (.tmp 18)) 1 19 (.int .i64 p0.1) (by kernel_rfl) rfl (by kernel_rfl) (.head _) (QP_then QP_body) (fun _ h => h.1) (show evL _ _ = some (.pointer (some ⟨b1, 0, none⟩)) from (by kernel_rfl)) hb1 (by kernel_rfl) ?_
        refine WA_pure 2 20 (.int .u8 (IntKind.wrap .u8 p0.1)) (by kernel_rfl) rfl (by kernel_rfl) (.head _) (QP_then QP_body) ?_
        refine WA_pure 4 22 (.pointer (some ⟨b1, 1, none⟩)) (by kernel_rfl) rfl (by kernel_rfl) (.head _) (QP_then QP_body) ?_
        refine WA_load_row (t := 50) (x := (.tmp 22)) 5 23 (.slice a1 (List.length p0.2) c1) (by kernel_rfl) rfl (by kernel_rfl) (.head _) (QP_then QP_body) (fun _ h => h.1) (show evL _ _ = some (.pointer (some ⟨b1, 1, none⟩)) from (by kernel_rfl)) (hb1.drop 1) (by kernel_rfl) ?_
        refine WA_pure 6 24 (.int .i64 (List.length p0.2 : Int)) (by kernel_rfl) rfl (by kernel_rfl) (.head _) (QP_then QP_body) ?_
        refine WA_pure 7 25 (.int .u64 (IntKind.wrap .u64 (List.length p0.2 : Int))) (by kernel_rfl) rfl (by kernel_rfl) (.head _) (QP_then QP_body) ?_
        refine WA_pure 9 27 (.pointer (some ⟨b1, 1, none⟩)) (by kernel_rfl) rfl (by kernel_rfl) (.head _) (QP_then QP_body) ?_
        refine WA_load_row (t := 50) (x := (.tmp 27)) 10 28 (.slice a1 (List.length p0.2) c1) (by kernel_rfl) rfl (by kernel_rfl) (.head _) (QP_then QP_body) (fun _ h => h.1) (show evL _ _ = some (.pointer (some ⟨b1, 1, none⟩)) from (by kernel_rfl)) (hb1.drop 1) (by kernel_rfl) ?_
        refine WA_one 3 (by kernel_rfl) (One_buildSlice (d := 21) (t := 50) (e := 5) (len := 2) (parts := #[(0, (.const (.int .u8 247))), (1, (.tmp 20))]) cU8 (xs := [(247 : UInt8), toU8 (IntKind.wrap .u8 p0.1)]) [.int .u8 247, .int .u8 (IntKind.wrap .u8 p0.1)] (by kernel_rfl) rfl (fun _ => buildCells_run (by kernel_rfl) _) rfl rfl st ⟨[.int .u8 247], _, rfl, rfl, ⟨[.int .u8 (IntKind.wrap .u8 p0.1)], _, rfl, (rep_u8_wrap _), rfl⟩⟩ ?_)
        clear st
        intro b2 m3 w4 hle2 st r2
        have hm := Mem.le_trans hm hle2
        have hb1 := hb1.mono hle2
        have r1 := r1.mono hle2
        have hmS := Mem.le_trans hmS hle2
        refine ⟨⟨.inr ⟨Inv.anti st.inv hmS, trivial⟩, trivial⟩, ?_⟩
        replace hr := bindS hr
        obtain ⟨y1, hx1, hr⟩ := hr
        refine WA_one 8 (by kernel_rfl) (One_fn 26 45 #[.slice (some ⟨b2, 0, none⟩) (List.length ([(247 : UInt8), toU8 (IntKind.wrap .u8 p0.1)])) 2, .int .u64 (IntKind.wrap .u64 (List.length p0.2 : Int))] (by kernel_rfl) rfl ?_)
        refine (wire_PutUint_ok st r2 hx1).mono ?_
        clear st
        rintro _ w5 ⟨a2, c2, m4, rfl, hle3, st, r3⟩
        refine ⟨_, rfl, ?_⟩
        have hm := Mem.le_trans hm hle3
        have hb1 := hb1.mono hle3
        have r1 := r1.mono hle3
        have r2 := r2.mono hle3
        have hmS := Mem.le_trans hmS hle3
        refine ⟨⟨.inr ⟨Inv.anti st.inv hmS, trivial⟩, trivial⟩, ?_⟩
        replace hr := bindS hr
        obtain ⟨l1, hx2, hr⟩ := hr
        refine WA_one 11 (by kernel_rfl) (One_append (d := 29) (t := 50) (u := 50) (e := 5) (by_ := 1) (x := (.tmp 26)) (y := (.tmp 28)) cU8 (by kernel_rfl) rfl (show evL _ _ = some (.slice a2 (List.length y1) c2) from (by kernel_rfl)) (show evL _ _ = some (.slice a1 (List.length p0.2) c1) from (by kernel_rfl)) st (by kernel_rfl) (.inl (by kernel_rfl)) r3 r1.src hx2 ?_)
        clear st
        intro a3 c3 m5 w6 hle4 st r4
        have hm := Mem.le_trans hm hle4
        have hb1 := hb1.mono hle4
        have r1 := r1.mono hle4
        have r2 := r2.mono hle4
        have r3 := r3.mono hle4
        have hmS := Mem.le_trans hmS hle4
        refine ⟨⟨.inr ⟨Inv.anti st.inv hmS, trivial⟩, trivial⟩, ?_⟩
        refine WA_pure 12 4 (.slice a3 (List.length l1) c3) (by kernel_rfl) rfl (by kernel_rfl) (.head _) (QP_then QP_body) ?_
        refine WA_done (by kernel_rfl) ?_
        have st := st.front1
        have st := st.tail
        refine X_then ?_
        refine W_seq ?_
        refine W_region ?_
        refine WO_seg 1 [(30, .slice a3 (List.length l1) c3)] (by kernel_rfl) (by kernel_rfl) ?_
        replace hr := bindS hr
        obtain ⟨l2, hx3, hr⟩ := hr
        refine WO_one rfl (One_slice (d := 31) (t := 50) (e := 5) (x := (.tmp 30)) (lo := (some (.const (.int .i64 1)))) (hi := none) cU8 (by kernel_rfl) rfl (show evL _ _ = some (.slice a3 (List.length l1) c3) from (by kernel_rfl)) (by kernel_rfl) r4 (.inr ⟨_, _, rfl, (show evL _ _ = some (.int .i64 1) from (by kernel_rfl))⟩) (.inl ⟨rfl, rfl⟩) hx3 ?_)
        intro a4 c4 r5
        replace hr := bindS hr
        obtain ⟨y2, hx4, hr⟩ := hr
        refine WO_one rfl (One_fn 32 34 #[.slice a4 (List.length l2) c4] (by kernel_rfl) rfl ?_)
        refine (wire_Checksum_ok st r5 hx4).mono ?_
        clear st
        rintro _ w7 ⟨m6, rfl, hle5, st⟩
        refine ⟨_, rfl, ?_⟩
        have hm := Mem.le_trans hm hle5
        have r4 := r4.mono hle5
        have r5 := r5.mono hle5
        refine WO_seg 1 [(5, .int .u32 y2)] (by kernel_rfl) (by kernel_rfl) ?_
        refine WO_end rfl ?_
        refine X_then ?_
        refine W_seq ?_
        refine W_region ?_
        refine WO_seg 12 [(33, .slice a3 (List.length l1) c3), (35, .int .u8 (IntKind.wrap .u8 y2)), (38, .int .u8 (IntKind.wrap .u8 (Int.fdiv y2 (2 ^ 8)))), (41, .int .u8 (IntKind.wrap .u8 (Int.fdiv y2 (2 ^ 16)))), (44, .int .u8 (IntKind.wrap .u8 (Int.fdiv y2 (2 ^ 24))))] (by kernel_rfl) (by kernel_rfl) ?_
        refine WO_one rfl (One_buildSlice (d := 45) (t := 50) (e := 5) (len := 4) (parts := #[(0, (.tmp 35)), (1, (.tmp 38)), (2, (.tmp 41)), (3, (.tmp 44))]) cU8 (xs := [toU8 (IntKind.wrap .u8 y2), toU8 (IntKind.wrap .u8 (Int.fdiv y2 (2 ^ 8))), toU8 (IntKind.wrap .u8 (Int.fdiv y2 (2 ^ 16))), toU8 (IntKind.wrap .u8 (Int.fdiv y2 (2 ^ 24)))]) [.int .u8 (IntKind.wrap .u8 y2), .int .u8 (IntKind.wrap .u8 (Int.fdiv y2 (2 ^ 8))), .int .u8 (IntKind.wrap .u8 (Int.fdiv y2 (2 ^ 16))), .int .u8 (IntKind.wrap .u8 (Int.fdiv y2 (2 ^ 24)))] (by kernel_rfl) rfl (fun _ => buildCells_run (by kernel_rfl) _) rfl rfl st ⟨[.int .u8 (IntKind.wrap .u8 y2)], _, rfl, (rep_u8_wrap _), ⟨[.int .u8 (IntKind.wrap .u8 (Int.fdiv y2 (2 ^ 8)))], _, rfl, (rep_u8_wrap _), ⟨[.int .u8 (IntKind.wrap .u8 (Int.fdiv y2 (2 ^ 16)))], _, rfl, (rep_u8_wrap _), ⟨[.int .u8 (IntKind.wrap .u8 (Int.fdiv y2 (2 ^ 24)))], _, rfl, (rep_u8_wrap _), rfl⟩⟩⟩⟩ ?_)
        clear st
        intro b3 m7 w8 hle6 st r6
        have hm := Mem.le_trans hm hle6
        have r4 := r4.mono hle6
        have st := st.front1
        replace hr := bindS hr
        obtain ⟨l3, hx5, hr⟩ := hr
        refine WO_one rfl (One_append (d := 46) (t := 50) (u := 50) (e := 5) (by_ := 1) (x := (.tmp 33)) (y := (.tmp 45)) cU8 (by kernel_rfl) rfl (show evL _ _ = some (.slice a3 (List.length l1) c3) from (by kernel_rfl)) (show evL _ _ = some (.slice (some ⟨b3, 0, none⟩) (List.length ([toU8 (IntKind.wrap .u8 y2), toU8 (IntKind.wrap .u8 (Int.fdiv y2 (2 ^ 8))), toU8 (IntKind.wrap .u8 (Int.fdiv y2 (2 ^ 16))), toU8 (IntKind.wrap .u8 (Int.fdiv y2 (2 ^ 24)))])) 4) from (by kernel_rfl)) st (by kernel_rfl) (.inl (by kernel_rfl)) r4 r6.src hx5 ?_)
        clear st
        intro a5 c5 m8 w9 hle7 st r7
        have hm := Mem.le_trans hm hle7
        have r4 := r4.mono hle7
        have r6 := r6.mono hle7
        refine WO_seg 2 [(2, .slice a5 (List.length l3) c5), (3, .int .i64 0)] (by kernel_rfl) (by kernel_rfl) ?_
        refine WO_end rfl ?_
        have st := st.front1
        have st := st.tail
        refine X_then ?_
        refine W_ret ?_
        obtain rfl := Option.some.inj hr
        refine X_ret [.tmp 2, .tmp 3] [.slice a5 (List.length l3) c5, .int .i64 0] rfl (ResAll.cons (ResAt.tmp (by kernel_rfl)) (ResAll.cons (ResAt.tmp (by kernel_rfl)) ResAll.nil)) ?_
        exact ⟨a5, c5, m8, rfl, hm, st, r7⟩
  · intro K
    clear hrK
    refine WO_seg 1 [(6, .pointer (some ⟨b1, 0, none⟩))] (by kernel_rfl) (by kernel_rfl) ?_
    refine WO_one rfl (One_load_row (d := 7) (t := 3) (x := (.tmp 6)) (.int .i64 p0.1) (by kernel_rfl) rfl (show evL _ _ = some (.pointer (some ⟨b1, 0, none⟩)) from (by kernel_rfl)) st hb1 (by kernel_rfl) ?_)
    refine WO_seg 2 [(9, .bool (decide (p0.1 < 1)))] (by kernel_rfl) (by kernel_rfl) ?_
    rcases bcases (decide (p0.1 < 1)) with hc | hc
    · rw [if_pos hc] at hr
      refine WO_fact (t := 9) (b := true) (decide (p0.1 < 1)) (by kernel_rfl) hc ?_
      refine WO_seg 4 [(13, .bool true)] (by kernel_rfl) (by kernel_rfl) ?_
      obtain rfl := Option.some.inj hr
      exact WO_env _ (by kernel_rfl) (K _ _ ⟨m1, rfl, hm, st, hb1, r1⟩)
    · rw [if_neg (not_true hc)] at hr
      refine WO_fact (t := 9) (b := false) (decide (p0.1 < 1)) (by kernel_rfl) hc ?_
      refine WO_seg 1 [(10, .pointer (some ⟨b1, 0, none⟩))] (by kernel_rfl) (by kernel_rfl) ?_
      refine WO_one rfl (One_load_row (d := 11) (t := 3) (x := (.tmp 10)) (.int .i64 p0.1) (by kernel_rfl) rfl (show evL _ _ = some (.pointer (some ⟨b1, 0, none⟩)) from (by kernel_rfl)) st hb1 (by kernel_rfl) ?_)
      refine WO_seg 2 [(13, .bool (decide (p0.1 > 255)))] (by kernel_rfl) (by kernel_rfl) ?_
      obtain rfl := Option.some.inj hr
      exact WO_env _ (by kernel_rfl) (K _ _ ⟨m1, rfl, hm, st, hb1, r1⟩)

def testgatemake_Fold (N : Nat) (p0 : Int) (p1 : Int) : Option (Int) :=
  if (decide (p1 ≤ 1)) = true then (some 0) else ((remS p0 p1).bind fun i1 => (if (decide (i1 < 0)) = true then (some (IntKind.wrap .i64 (i1 + p1))) else (some i1) : Option (Int)).bind fun o1 => some o1)

set_option maxHeartbeats 4000000 in
set_option maxRecDepth 100000 in
theorem testgatemake_Fold_ok {N : Nat} {m : Mem} {own : List Piece} {w : World} {p0 : Int} {p1 : Int} {r : Int} (st : St m (own) w) (hr : testgatemake_Fold N p0 p1 = some r) : Calls Go.Proofs.Try.prog 42 #[.int .i64 p0, .int .i64 p1] w fun e w' => ∃ (m' : Mem), e = .returned (.int .i64 r) ∧ m.le m' ∧ St m' (own) w' := by
  unfold testgatemake_Fold at hr
  have hm := m.le_refl
  refine W_calls Go.Proofs.Try.func42 rfl Go.Proofs.Try.ntmps42 [(0, .int .i64 p0), (1, .int .i64 p1)] (by kernel_rfl) rfl ?_
  refine W_seq ?_
  refine W_region ?_
  refine WO_seg 1 [] (by kernel_rfl) (by kernel_rfl) ?_
  refine WO_end rfl ?_
  refine X_then ?_
  refine W_seq ?_
  refine W_seq ?_
  refine W_region ?_
  refine WO_seg 2 [(6, .bool (decide (p1 ≤ 1)))] (by kernel_rfl) (by kernel_rfl) ?_
  refine WO_end rfl ?_
  refine X_then ?_
  refine W_cond (decide (p1 ≤ 1)) (by kernel_rfl) ?_ ?_
  · intro hc
    rw [if_pos hc] at hr
    refine W_seq ?_
    refine W_region ?_
    refine WO_seg 1 [(4, .int .i64 0)] (by kernel_rfl) (by kernel_rfl) ?_
    refine WO_end rfl ?_
    refine X_then ?_
    refine W_ret ?_
    refine X_then_ret ?_
    obtain rfl := Option.some.inj hr
    refine X_ret [.tmp 4] [.int .i64 0] rfl (ResAll.cons (ResAt.tmp (by kernel_rfl)) ResAll.nil) ?_
    exact ⟨m, rfl, hm, st⟩
  · intro hc
    rw [if_neg (not_true hc)] at hr
    refine W_skip ?_
    refine X_then ?_
    refine W_seq ?_
    refine W_region ?_
    refine WO_seg 2 [(7, .int .i64 p0), (8, .int .i64 p1)] (by kernel_rfl) (by kernel_rfl) ?_
    replace hr := bindS hr
    obtain ⟨i1, hx1, hr⟩ := hr
    refine WO_one rfl (One_rem (d := 9) (t := 3) (t2 := 3) (x := (.tmp 7)) (y := (.tmp 8)) (by kernel_rfl) rfl (show evL _ _ = some (.int .i64 p0) from (by kernel_rfl)) (show evL _ _ = some (.int .i64 p1) from (by kernel_rfl)) hx1 ?_)
    refine WO_seg 1 [(0, .int .i64 i1)] (by kernel_rfl) (by kernel_rfl) ?_
    refine WO_end rfl ?_
    refine X_then ?_
    refine W_seq ?_
    refine W_seq ?_
    refine W_region ?_
    refine WO_seg 2 [(11, .bool (decide (i1 < 0)))] (by kernel_rfl) (by kernel_rfl) ?_
    refine WO_end rfl ?_
    refine X_then ?_
    replace hr := bindS hr
    obtain ⟨o1, hr, hrKu1⟩ := hr
    refine W_cut .normal (fun L' w' => ∃ (m1 : Mem), L' = [(0, .int .i64 o1)] ∧ m.le m1 ∧ St m1 (own) w') ?_ ?_
    · clear hr st
      have hr := hrKu1
      clear hrKu1
      rintro _ w1 ⟨m1, rfl, hm, st⟩
      refine X_then ?_
      refine W_seq ?_
      refine W_region ?_
      refine WO_seg 2 [(4, .int .i64 o1)] (by kernel_rfl) (by kernel_rfl) ?_
      refine WO_end rfl ?_
      refine X_then ?_
      refine W_ret ?_
      obtain rfl := Option.some.inj hr
      refine X_ret [.tmp 4] [.int .i64 o1] rfl (ResAll.cons (ResAt.tmp (by kernel_rfl)) ResAll.nil) ?_
      exact ⟨m1, rfl, hm, st⟩
    · intro Ku1
      clear hrKu1
      refine W_cond (decide (i1 < 0)) (by kernel_rfl) ?_ ?_
      · intro hc
        rw [if_pos hc] at hr
        refine W_region ?_
        refine WO_seg 4 [(0, .int .i64 (IntKind.wrap .i64 (i1 + p1)))] (by kernel_rfl) (by kernel_rfl) ?_
        refine WO_end rfl ?_
        obtain rfl := Option.some.inj hr
        exact X_env _ (by kernel_rfl) (Ku1 _ _ ⟨m, rfl, hm, st⟩)
      · intro hc
        rw [if_neg (not_true hc)] at hr
        refine W_skip ?_
        obtain rfl := Option.some.inj hr
        exact X_env _ (by kernel_rfl) (Ku1 _ _ ⟨m, rfl, hm, st⟩)

def wire_Uint_L1 (N : Nat) (p0 : List UInt8) (s1 : Int) : Option ((Int) ⊕ ((Int))) :=
  (if (decide (s1 < (List.length p0 : Int))) = true then ((idx p0 s1).bind fun x1 => some (decide ((x1.toNat : Int) ≥ 128))) else (some false) : Option (Bool)).bind fun o3 => if o3 = true then (some (.inl (IntKind.wrap .i64 (s1 + 1)))) else (some (.inr s1))

def wire_Uint_L2 (N : Nat) (p0 : List UInt8) (p1 : Int) (s2 : Int × Int) : Option ((Int × Int) ⊕ ((Int))) :=
  if (decide (s2.2 ≥ p1)) = true then ((idx p0 s2.2).bind fun x5 => some (.inl (iOr .u64 (IntKind.wrap .u64 (s2.1 * 2 ^ 7)) (IntKind.wrap .u64 (iAnd .u8 (x5.toNat : Int) 127)), IntKind.wrap .i64 (s2.2 - 1)))) else (some (.inr s2.1))

def wire_Uint (N : Nat) (p0 : List UInt8) (p1 : Int) : Option (Int × Int × Int) :=
  (if (decide (p1 < 0)) = true then (some true) else (some (decide (p1 > (List.length p0 : Int)))) : Option (Bool)).bind fun o1 => if o1 = true then (some (0, 0, 3)) else ((loopM (wire_Uint_L1 N p0) N p1).bind fun o2 => if (o2 == (List.length p0 : Int)) = true then (some (0, 0, 7)) else ((if (decide ((IntKind.wrap .i64 ((IntKind.wrap .i64 (o2 - p1)) + 1)) > 10)) = true then (some true) else (if ((IntKind.wrap .i64 ((IntKind.wrap .i64 (o2 - p1)) + 1)) == 10) = true then ((idx p0 o2).bind fun x2 => if (decide ((x2.toNat : Int) > 1)) = true then (some true) else (if (decide ((IntKind.wrap .i64 ((IntKind.wrap .i64 (o2 - p1)) + 1)) > 1)) = true then ((idx p0 o2).bind fun x3 => some ((x3.toNat : Int) == 0)) else (some false))) else (if (decide ((IntKind.wrap .i64 ((IntKind.wrap .i64 (o2 - p1)) + 1)) > 1)) = true then ((idx p0 o2).bind fun x4 => some ((x4.toNat : Int) == 0)) else (some false))) : Option (Bool)).bind fun o4 => if o4 = true then (some (0, 0, 6)) else ((loopM (wire_Uint_L2 N p0 p1) N (0, o2)).bind fun o5 => some (o5, IntKind.wrap .i64 (o2 + 1), 0))))

set_option maxHeartbeats 4000000 in
set_option maxRecDepth 100000 in
theorem wire_Uint_ok {N : Nat} {m : Mem} {own : List Piece} {w : World} {p0 : List UInt8} {p1 : Int} {a1 : Option Addr} {c1 : Nat} {r : Int × Int × Int} (st : St m (own) w) (r1 : RepS cU8 m a1 c1 p0) (hr : wire_Uint N p0 p1 = some r) : Calls Go.Proofs.Try.prog 49 #[.slice a1 (List.length p0) c1, .int .i64 p1] w fun e w' => ∃ (m' : Mem), e = .returned (.tuple #[.int .u64 r.1, .int .i64 r.2.1, .int .i64 r.2.2]) ∧ m.le m' ∧ St m' (own) w' := by
  unfold wire_Uint at hr
  have hm := m.le_refl
  refine W_calls Go.Proofs.Try.func49 rfl Go.Proofs.Try.ntmps49 [(0, .slice a1 (List.length p0) c1), (1, .int .i64 p1)] (by kernel_rfl) rfl ?_
  refine W_seq ?_
  refine W_region ?_
  refine WO_seg 3 [(4, .int .u64 0)] (by kernel_rfl) (by kernel_rfl) ?_
  refine WO_end rfl ?_
  refine X_then ?_
  refine W_seq ?_
  refine W_seq ?_
  refine W_region ?_
  replace hr := bindS hr
  obtain ⟨o1, hr, hrK⟩ := hr
  refine WO_cut (j := 8) (fun L' w' => ∃ (m1 : Mem), L' = [(0, .slice a1 (List.length p0) c1), (1, .int .i64 p1), (4, .int .u64 0), (17, .bool o1)] ∧ m.le m1 ∧ St m1 (own) w' ∧ RepS cU8 m1 a1 c1 p0) ?_ ?_
  · clear hr st
    have hr := hrK
    clear hrK
    rintro _ w1 ⟨m1, rfl, hm, st, r1⟩
    refine WO_end rfl ?_
    refine X_then ?_
    refine W_cond o1 (by kernel_rfl) ?_ ?_
    · intro hc
      rw [if_pos hc] at hr
      refine W_seq ?_
      refine W_region ?_
      refine WO_seg 3 [(4, .int .u64 0), (5, .int .i64 0), (6, .int .i64 3)] (by kernel_rfl) (by kernel_rfl) ?_
      refine WO_end rfl ?_
      refine X_then ?_
      refine W_ret ?_
      refine X_then_ret ?_
      obtain rfl := Option.some.inj hr
      refine X_ret [.tmp 4, .tmp 5, .tmp 6] [.int .u64 0, .int .i64 0, .int .i64 3] rfl (ResAll.cons (ResAt.tmp (by kernel_rfl)) (ResAll.cons (ResAt.tmp (by kernel_rfl)) (ResAll.cons (ResAt.tmp (by kernel_rfl)) ResAll.nil))) ?_
      exact ⟨m1, rfl, hm, st⟩
    · intro hc
      rw [if_neg (not_true hc)] at hr
      refine W_skip ?_
      refine X_then ?_
      refine W_seq ?_
      refine W_region ?_
      refine WO_seg 2 [(7, .int .i64 p1)] (by kernel_rfl) (by kernel_rfl) ?_
      refine WO_end rfl ?_
      refine X_then ?_
      refine W_seq ?_
      refine W_block ?_
      replace hr := bindS hr
      obtain ⟨out1, hr, hrKu1⟩ := hr
      refine W_cut (.exit 0) (fun L' w' => ∃ (o2 : Int) (m2 : Mem), o2 = out1 ∧ L' = [(0, .slice a1 (List.length p0) c1), (1, .int .i64 p1), (4, .int .u64 0), (7, .int .i64 o2)] ∧ m.le m2 ∧ St m2 (own) w' ∧ RepS cU8 m2 a1 c1 p0) ?_ ?_
      · clear hr st
        rintro _ w2 ⟨o2, m2, rfl, rfl, hm, st, r1⟩
        have hr := hrKu1
        clear hrKu1
        refine X_block_eq ?_
        refine X_then ?_
        refine W_seq ?_
        refine W_region ?_
        refine WO_seg 5 [(8, .int .i64 (IntKind.wrap .i64 ((IntKind.wrap .i64 (o2 - p1)) + 1)))] (by kernel_rfl) (by kernel_rfl) ?_
        refine WO_end rfl ?_
        refine X_then ?_
        refine W_seq ?_
        refine W_block ?_
        refine W_seq ?_
        refine W_region ?_
        refine WO_seg 5 [(36, .bool (o2 == (List.length p0 : Int)))] (by kernel_rfl) (by kernel_rfl) ?_
        refine WO_end rfl ?_
        refine X_then ?_
        refine W_cond (o2 == (List.length p0 : Int)) (by kernel_rfl) ?_ ?_
        · intro hc
          rw [if_pos hc] at hr
          refine W_seq ?_
          refine W_region ?_
          refine WO_seg 3 [(4, .int .u64 0), (5, .int .i64 0), (6, .int .i64 7)] (by kernel_rfl) (by kernel_rfl) ?_
          refine WO_end rfl ?_
          refine X_then ?_
          refine W_ret ?_
          refine X_block_ret ?_
          refine X_then_ret ?_
          obtain rfl := Option.some.inj hr
          refine X_ret [.tmp 4, .tmp 5, .tmp 6] [.int .u64 0, .int .i64 0, .int .i64 7] rfl (ResAll.cons (ResAt.tmp (by kernel_rfl)) (ResAll.cons (ResAt.tmp (by kernel_rfl)) (ResAll.cons (ResAt.tmp (by kernel_rfl)) ResAll.nil))) ?_
          exact ⟨m2, rfl, hm, st⟩
        · intro hc
          rw [if_neg (not_true hc)] at hr
          refine W_seq ?_
          refine W_region ?_
          replace hr := bindS hr
          obtain ⟨o4, hr, hrK⟩ := hr
          refine WO_cut (j := 25) (fun L' w' => ∃ (m5 : Mem), L' = [(0, .slice a1 (List.length p0) c1), (1, .int .i64 p1), (4, .int .u64 0), (7, .int .i64 o2), (41, .bool o4)] ∧ m.le m5 ∧ St m5 (own) w' ∧ RepS cU8 m5 a1 c1 p0) ?_ ?_
          · clear hr st
            have hr := hrK
            clear hrK
            rintro _ w5 ⟨m5, rfl, hm, st, r1⟩
            refine WO_end rfl ?_
            refine X_then ?_
            refine W_cond o4 (by kernel_rfl) ?_ ?_
            · intro hc
              rw [if_pos hc] at hr
              refine W_seq ?_
              refine W_region ?_
              refine WO_seg 3 [(4, .int .u64 0), (5, .int .i64 0), (6, .int .i64 6)] (by kernel_rfl) (by kernel_rfl) ?_
              refine WO_end rfl ?_
              refine X_then ?_
              refine W_ret ?_
              refine X_block_ret ?_
              refine X_then_ret ?_
              obtain rfl := Option.some.inj hr
              refine X_ret [.tmp 4, .tmp 5, .tmp 6] [.int .u64 0, .int .i64 0, .int .i64 6] rfl (ResAll.cons (ResAt.tmp (by kernel_rfl)) (ResAll.cons (ResAt.tmp (by kernel_rfl)) (ResAll.cons (ResAt.tmp (by kernel_rfl)) ResAll.nil))) ?_
              exact ⟨m5, rfl, hm, st⟩
            · intro hc
              rw [if_neg (not_true hc)] at hr
              refine W_skip ?_
              refine X_block ?_
              refine X_then ?_
              refine W_seq ?_
              refine W_seq ?_
              refine W_region ?_
              refine WO_seg 2 [(9, .int .i64 o2)] (by kernel_rfl) (by kernel_rfl) ?_
              refine WO_end rfl ?_
              refine X_then ?_
              refine W_block ?_
              replace hr := bindS hr
              obtain ⟨out2, hr, hrKu3⟩ := hr
              refine W_cut (.exit 3) (fun L' w' => ∃ (o5 : Int) (m6 : Mem), o5 = out2 ∧ L' = [(4, .int .u64 o5), (7, .int .i64 o2)] ∧ m.le m6 ∧ St m6 (own) w') ?_ ?_
              · clear hr st
                rintro _ w6 ⟨o5, m6, rfl, rfl, hm, st⟩
                have hr := hrKu3
                clear hrKu3
                refine X_block_eq ?_
                refine X_then ?_
                refine W_seq ?_
                refine W_region ?_
                refine WO_seg 6 [(4, .int .u64 o5), (5, .int .i64 (IntKind.wrap .i64 (o2 + 1))), (6, .int .i64 0)] (by kernel_rfl) (by kernel_rfl) ?_
                refine WO_end rfl ?_
                refine X_then ?_
                refine W_ret ?_
                obtain rfl := Option.some.inj hr
                refine X_ret [.tmp 4, .tmp 5, .tmp 6] [.int .u64 o5, .int .i64 (IntKind.wrap .i64 (o2 + 1)), .int .i64 0] rfl (ResAll.cons (ResAt.tmp (by kernel_rfl)) (ResAll.cons (ResAt.tmp (by kernel_rfl)) (ResAll.cons (ResAt.tmp (by kernel_rfl)) ResAll.nil))) ?_
                exact ⟨m6, rfl, hm, st⟩
              intro K3_u3
              clear hrKu3
              refine W_env _ (by kernel_rfl) (W_loop (fun k2 L' w' => ∃ (s2 : Int × Int) (m7 : Mem), loopM (wire_Uint_L2 N p0 p1) k2 s2 = some out2 ∧ L' = [(0, .slice a1 (List.length p0) c1), (1, .int .i64 p1), (4, .int .u64 s2.1), (7, .int .i64 o2), (9, .int .i64 s2.2)] ∧ m.le m7 ∧ St m7 (own) w' ∧ RepS cU8 m7 a1 c1 p0) N ⟨(0, o2), m5, hr, rfl, hm, st, r1⟩ ?_)
              clear st hr
              rintro k2 _ w7 ⟨s2, m7, hL, rfl, hm, st, r1⟩
              rcases k2 with _ | k2
              · exact loopM_zero hL
              · obtain ⟨qu3, hr, hSu3, hBu3⟩ := loopM_succ hL
                clear hL
                unfold wire_Uint_L2 at hr
                refine W_seq ?_
                refine W_seq ?_
                refine W_region ?_
                refine WO_seg 3 [(69, .bool (decide (s2.2 ≥ p1)))] (by kernel_rfl) (by kernel_rfl) ?_
                refine WO_end rfl ?_
                refine X_then ?_
                refine W_cond (decide (s2.2 ≥ p1)) (by kernel_rfl) ?_ ?_
                · intro hc
                  rw [if_pos hc] at hr
                  refine W_skip ?_
                  refine X_then ?_
                  refine W_seq ?_
                  refine W_block ?_
                  refine W_region ?_
                  refine WO_seg 4 [(73, .int .u64 (IntKind.wrap .u64 (s2.1 * 2 ^ 7))), (74, .slice a1 (List.length p0) c1), (75, .int .i64 s2.2)] (by kernel_rfl) (by kernel_rfl) ?_
                  replace hr := bindS hr
                  obtain ⟨x5, hx5, hr⟩ := hr
                  refine WO_one rfl (One_index (d := 76) (t := 50) (e := 5) (x := (.tmp 74)) (y := (.tmp 75)) cU8 (by kernel_rfl) rfl (show evL _ _ = some (.slice a1 (List.length p0) c1) from (by kernel_rfl)) (show evL _ _ = some (.int .i64 s2.2) from (by kernel_rfl)) (by kernel_rfl) r1 hx5 ?_)
                  rintro b5 f5 cs5 rfl hq5
                  refine WO_one rfl (One_load_row (d := 77) (t := 5) (x := (.tmp 76)) (.int .u8 (x5.toNat : Int)) (by kernel_rfl) rfl (show evL _ _ = some (.pointer (some ⟨b5, f5, none⟩)) from (by kernel_rfl)) st hq5 (by kernel_rfl) ?_)
                  refine WO_seg 4 [(4, .int .u64 (iOr .u64 (IntKind.wrap .u64 (s2.1 * 2 ^ 7)) (IntKind.wrap .u64 (iAnd .u8 (x5.toNat : Int) 127))))] (by kernel_rfl) (by kernel_rfl) ?_
                  refine WO_end rfl ?_
                  refine X_block ?_
                  refine X_then ?_
                  refine W_region ?_
                  refine WO_seg 3 [(9, .int .i64 (IntKind.wrap .i64 (s2.2 - 1)))] (by kernel_rfl) (by kernel_rfl) ?_
                  refine WO_end rfl ?_
                  obtain rfl := Option.some.inj hr
                  have hL := hSu3 _ rfl
                  exact X_env _ (by kernel_rfl) (X_round k2 (Nat.lt_succ_self _) ⟨(iOr .u64 (IntKind.wrap .u64 (s2.1 * 2 ^ 7)) (IntKind.wrap .u64 (iAnd .u8 (x5.toNat : Int) 127)), IntKind.wrap .i64 (s2.2 - 1)), m7, hL, rfl, hm, st, r1⟩)
                · intro hc
                  rw [if_neg (not_true hc)] at hr
                  refine W_exit ?_
                  refine X_then_exit ?_
                  obtain rfl := Option.some.inj hr
                  have ho := hBu3 _ rfl
                  refine X_then_exit ?_
                  exact X_env _ (by kernel_rfl) (K3_u3 _ _ ⟨s2.1, m7, ho, rfl, hm, st⟩)
          · intro K
            clear hrK
            refine WO_seg 3 [(44, .bool (decide ((IntKind.wrap .i64 ((IntKind.wrap .i64 (o2 - p1)) + 1)) > 10)))] (by kernel_rfl) (by kernel_rfl) ?_
            rcases bcases (decide ((IntKind.wrap .i64 ((IntKind.wrap .i64 (o2 - p1)) + 1)) > 10)) with hc | hc
            · rw [if_pos hc] at hr
              refine WO_fact (t := 44) (b := true) (decide ((IntKind.wrap .i64 ((IntKind.wrap .i64 (o2 - p1)) + 1)) > 10)) (by kernel_rfl) hc ?_
              refine WO_seg 22 [(41, .bool true)] (by kernel_rfl) (by kernel_rfl) ?_
              obtain rfl := Option.some.inj hr
              exact WO_env _ (by kernel_rfl) (K _ _ ⟨m2, rfl, hm, st, r1⟩)
            · rw [if_neg (not_true hc)] at hr
              refine WO_fact (t := 44) (b := false) (decide ((IntKind.wrap .i64 ((IntKind.wrap .i64 (o2 - p1)) + 1)) > 10)) (by kernel_rfl) hc ?_
              refine WO_seg 3 [(47, .bool ((IntKind.wrap .i64 ((IntKind.wrap .i64 (o2 - p1)) + 1)) == 10))] (by kernel_rfl) (by kernel_rfl) ?_
              rcases bcases ((IntKind.wrap .i64 ((IntKind.wrap .i64 (o2 - p1)) + 1)) == 10) with hc | hc
              · rw [if_pos hc] at hr
                refine WO_fact (t := 47) (b := true) ((IntKind.wrap .i64 ((IntKind.wrap .i64 (o2 - p1)) + 1)) == 10) (by kernel_rfl) hc ?_
                refine WO_seg 2 [(48, .slice a1 (List.length p0) c1), (49, .int .i64 o2)] (by kernel_rfl) (by kernel_rfl) ?_
                replace hr := bindS hr
                obtain ⟨x2, hx2, hr⟩ := hr
                refine WO_one rfl (One_index (d := 50) (t := 50) (e := 5) (x := (.tmp 48)) (y := (.tmp 49)) cU8 (by kernel_rfl) rfl (show evL _ _ = some (.slice a1 (List.length p0) c1) from (by kernel_rfl)) (show evL _ _ = some (.int .i64 o2) from (by kernel_rfl)) (by kernel_rfl) r1 hx2 ?_)
                rintro b2 f2 cs2 rfl hq2
                refine WO_one rfl (One_load_row (d := 51) (t := 5) (x := (.tmp 50)) (.int .u8 (x2.toNat : Int)) (by kernel_rfl) rfl (show evL _ _ = some (.pointer (some ⟨b2, f2, none⟩)) from (by kernel_rfl)) st hq2 (by kernel_rfl) ?_)
                refine WO_seg 4 [(55, .bool (decide ((x2.toNat : Int) > 1)))] (by kernel_rfl) (by kernel_rfl) ?_
                rcases bcases (decide ((x2.toNat : Int) > 1)) with hc | hc
                · rw [if_pos hc] at hr
                  refine WO_fact (t := 55) (b := true) (decide ((x2.toNat : Int) > 1)) (by kernel_rfl) hc ?_
                  refine WO_seg 11 [(41, .bool true)] (by kernel_rfl) (by kernel_rfl) ?_
                  obtain rfl := Option.some.inj hr
                  exact WO_env _ (by kernel_rfl) (K _ _ ⟨m2, rfl, hm, st, r1⟩)
                · rw [if_neg (not_true hc)] at hr
                  refine WO_fact (t := 55) (b := false) (decide ((x2.toNat : Int) > 1)) (by kernel_rfl) hc ?_
                  refine WO_seg 3 [(58, .bool (decide ((IntKind.wrap .i64 ((IntKind.wrap .i64 (o2 - p1)) + 1)) > 1)))] (by kernel_rfl) (by kernel_rfl) ?_
                  rcases bcases (decide ((IntKind.wrap .i64 ((IntKind.wrap .i64 (o2 - p1)) + 1)) > 1)) with hc | hc
                  · rw [if_pos hc] at hr
                    refine WO_fact (t := 58) (b := true) (decide ((IntKind.wrap .i64 ((IntKind.wrap .i64 (o2 - p1)) + 1)) > 1)) (by kernel_rfl) hc ?_
                    refine WO_seg 2 [(59, .slice a1 (List.length p0) c1), (60, .int .i64 o2)] (by kernel_rfl) (by kernel_rfl) ?_
                    replace hr := bindS hr
                    obtain ⟨x3, hx3, hr⟩ := hr
                    refine WO_one rfl (One_index (d := 61) (t := 50) (e := 5) (x := (.tmp 59)) (y := (.tmp 60)) cU8 (by kernel_rfl) rfl (show evL _ _ = some (.slice a1 (List.length p0) c1) from (by kernel_rfl)) (show evL _ _ = some (.int .i64 o2) from (by kernel_rfl)) (by kernel_rfl) r1 hx3 ?_)
                    rintro b3 f3 cs3 rfl hq3
                    refine WO_one rfl (One_load_row (d := 62) (t := 5) (x := (.tmp 61)) (.int .u8 (x3.toNat : Int)) (by kernel_rfl) rfl (show evL _ _ = some (.pointer (some ⟨b3, f3, none⟩)) from (by kernel_rfl)) st hq3 (by kernel_rfl) ?_)
                    refine WO_seg 4 [(41, .bool ((x3.toNat : Int) == 0))] (by kernel_rfl) (by kernel_rfl) ?_
                    obtain rfl := Option.some.inj hr
                    exact WO_env _ (by kernel_rfl) (K _ _ ⟨m2, rfl, hm, st, r1⟩)
                  · rw [if_neg (not_true hc)] at hr
                    refine WO_fact (t := 58) (b := false) (decide ((IntKind.wrap .i64 ((IntKind.wrap .i64 (o2 - p1)) + 1)) > 1)) (by kernel_rfl) hc ?_
                    refine WO_seg 8 [(41, .bool false)] (by kernel_rfl) (by kernel_rfl) ?_
                    obtain rfl := Option.some.inj hr
                    exact WO_env _ (by kernel_rfl) (K _ _ ⟨m2, rfl, hm, st, r1⟩)
              · rw [if_neg (not_true hc)] at hr
                refine WO_fact (t := 47) (b := false) ((IntKind.wrap .i64 ((IntKind.wrap .i64 (o2 - p1)) + 1)) == 10) (by kernel_rfl) hc ?_
                refine WO_seg 11 [(55, .bool false), (58, .bool (decide ((IntKind.wrap .i64 ((IntKind.wrap .i64 (o2 - p1)) + 1)) > 1)))] (by kernel_rfl) (by kernel_rfl) ?_
                rcases bcases (decide ((IntKind.wrap .i64 ((IntKind.wrap .i64 (o2 - p1)) + 1)) > 1)) with hc | hc
                · rw [if_pos hc] at hr
                  refine WO_fact (t := 58) (b := true) (decide ((IntKind.wrap .i64 ((IntKind.wrap .i64 (o2 - p1)) + 1)) > 1)) (by kernel_rfl) hc ?_
                  refine WO_seg 2 [(59, .slice a1 (List.length p0) c1), (60, .int .i64 o2)] (by kernel_rfl) (by kernel_rfl) ?_
                  replace hr := bindS hr
                  obtain ⟨x4, hx4, hr⟩ := hr
                  refine WO_one rfl (One_index (d := 61) (t := 50) (e := 5) (x := (.tmp 59)) (y := (.tmp 60)) cU8 (by kernel_rfl) rfl (show evL _ _ = some (.slice a1 (List.length p0) c1) from (by kernel_rfl)) (show evL _ _ = some (.int .i64 o2) from (by kernel_rfl)) (by kernel_rfl) r1 hx4 ?_)
                  rintro b4 f4 cs4 rfl hq4
                  refine WO_one rfl (One_load_row (d := 62) (t := 5) (x := (.tmp 61)) (.int .u8 (x4.toNat : Int)) (by kernel_rfl) rfl (show evL _ _ = some (.pointer (some ⟨b4, f4, none⟩)) from (by kernel_rfl)) st hq4 (by kernel_rfl) ?_)
                  refine WO_seg 4 [(41, .bool ((x4.toNat : Int) == 0))] (by kernel_rfl) (by kernel_rfl) ?_
                  obtain rfl := Option.some.inj hr
                  exact WO_env _ (by kernel_rfl) (K _ _ ⟨m2, rfl, hm, st, r1⟩)
                · rw [if_neg (not_true hc)] at hr
                  refine WO_fact (t := 58) (b := false) (decide ((IntKind.wrap .i64 ((IntKind.wrap .i64 (o2 - p1)) + 1)) > 1)) (by kernel_rfl) hc ?_
                  refine WO_seg 8 [(41, .bool false)] (by kernel_rfl) (by kernel_rfl) ?_
                  obtain rfl := Option.some.inj hr
                  exact WO_env _ (by kernel_rfl) (K _ _ ⟨m2, rfl, hm, st, r1⟩)
      intro K0_u1
      clear hrKu1
      refine W_env _ (by kernel_rfl) (W_loop (fun k1 L' w' => ∃ (s1 : Int) (m3 : Mem), loopM (wire_Uint_L1 N p0) k1 s1 = some out1 ∧ L' = [(0, .slice a1 (List.length p0) c1), (1, .int .i64 p1), (4, .int .u64 0), (7, .int .i64 s1)] ∧ m.le m3 ∧ St m3 (own) w' ∧ RepS cU8 m3 a1 c1 p0) N ⟨p1, m1, hr, rfl, hm, st, r1⟩ ?_)
      clear st hr
      rintro k1 _ w3 ⟨s1, m3, hL, rfl, hm, st, r1⟩
      rcases k1 with _ | k1
      · exact loopM_zero hL
      · obtain ⟨qu1, hr, hSu1, hBu1⟩ := loopM_succ hL
        clear hL
        unfold wire_Uint_L1 at hr
        refine W_seq ?_
        refine W_seq ?_
        refine W_region ?_
        replace hr := bindS hr
        obtain ⟨o3, hr, hrK⟩ := hr
        refine WO_cut (j := 11) (fun L' w' => ∃ (m4 : Mem), L' = [(0, .slice a1 (List.length p0) c1), (1, .int .i64 p1), (4, .int .u64 0), (7, .int .i64 s1), (29, .bool o3)] ∧ m.le m4 ∧ St m4 (own) w' ∧ RepS cU8 m4 a1 c1 p0) ?_ ?_
        · clear hr st
          have hr := hrK
          clear hrK
          rintro _ w4 ⟨m4, rfl, hm, st, r1⟩
          refine WO_end rfl ?_
          refine X_then ?_
          refine W_cond o3 (by kernel_rfl) ?_ ?_
          · intro hc
            rw [if_pos hc] at hr
            refine W_skip ?_
            refine X_then ?_
            refine W_block ?_
            refine W_region ?_
            refine WO_seg 3 [(7, .int .i64 (IntKind.wrap .i64 (s1 + 1)))] (by kernel_rfl) (by kernel_rfl) ?_
            refine WO_end rfl ?_
            refine X_block ?_
            obtain rfl := Option.some.inj hr
            have hL := hSu1 _ rfl
            exact X_env _ (by kernel_rfl) (X_round k1 (Nat.lt_succ_self _) ⟨IntKind.wrap .i64 (s1 + 1), m4, hL, rfl, hm, st, r1⟩)
          · intro hc
            rw [if_neg (not_true hc)] at hr
            refine W_exit ?_
            refine X_then_exit ?_
            obtain rfl := Option.some.inj hr
            have ho := hBu1 _ rfl
            refine X_then_exit ?_
            exact X_env _ (by kernel_rfl) (K0_u1 _ _ ⟨s1, m4, ho, rfl, hm, st, r1⟩)
        · intro K
          clear hrK
          refine WO_seg 5 [(23, .bool (decide (s1 < (List.length p0 : Int))))] (by kernel_rfl) (by kernel_rfl) ?_
          rcases bcases (decide (s1 < (List.length p0 : Int))) with hc | hc
          · rw [if_pos hc] at hr
            refine WO_fact (t := 23) (b := true) (decide (s1 < (List.length p0 : Int))) (by kernel_rfl) hc ?_
            refine WO_seg 2 [(24, .slice a1 (List.length p0) c1), (25, .int .i64 s1)] (by kernel_rfl) (by kernel_rfl) ?_
            replace hr := bindS hr
            obtain ⟨x1, hx1, hr⟩ := hr
            refine WO_one rfl (One_index (d := 26) (t := 50) (e := 5) (x := (.tmp 24)) (y := (.tmp 25)) cU8 (by kernel_rfl) rfl (show evL _ _ = some (.slice a1 (List.length p0) c1) from (by kernel_rfl)) (show evL _ _ = some (.int .i64 s1) from (by kernel_rfl)) (by kernel_rfl) r1 hx1 ?_)
            rintro b1 f1 cs1 rfl hq1
            refine WO_one rfl (One_load_row (d := 27) (t := 5) (x := (.tmp 26)) (.int .u8 (x1.toNat : Int)) (by kernel_rfl) rfl (show evL _ _ = some (.pointer (some ⟨b1, f1, none⟩)) from (by kernel_rfl)) st hq1 (by kernel_rfl) ?_)
            refine WO_seg 2 [(29, .bool (decide ((x1.toNat : Int) ≥ 128)))] (by kernel_rfl) (by kernel_rfl) ?_
            obtain rfl := Option.some.inj hr
            exact WO_env _ (by kernel_rfl) (K _ _ ⟨m3, rfl, hm, st, r1⟩)
          · rw [if_neg (not_true hc)] at hr
            refine WO_fact (t := 23) (b := false) (decide (s1 < (List.length p0 : Int))) (by kernel_rfl) hc ?_
            refine WO_seg 6 [(29, .bool false)] (by kernel_rfl) (by kernel_rfl) ?_
            obtain rfl := Option.some.inj hr
            exact WO_env _ (by kernel_rfl) (K _ _ ⟨m3, rfl, hm, st, r1⟩)
  · intro K
    clear hrK
    refine WO_seg 3 [(12, .bool (decide (p1 < 0)))] (by kernel_rfl) (by kernel_rfl) ?_
    rcases bcases (decide (p1 < 0)) with hc | hc
    · rw [if_pos hc] at hr
      refine WO_fact (t := 12) (b := true) (decide (p1 < 0)) (by kernel_rfl) hc ?_
      refine WO_seg 5 [(17, .bool true)] (by kernel_rfl) (by kernel_rfl) ?_
      obtain rfl := Option.some.inj hr
      exact WO_env _ (by kernel_rfl) (K _ _ ⟨m, rfl, hm, st, r1⟩)
    · rw [if_neg (not_true hc)] at hr
      refine WO_fact (t := 12) (b := false) (decide (p1 < 0)) (by kernel_rfl) hc ?_
      refine WO_seg 5 [(17, .bool (decide (p1 > (List.length p0 : Int))))] (by kernel_rfl) (by kernel_rfl) ?_
      obtain rfl := Option.some.inj hr
      exact WO_env _ (by kernel_rfl) (K _ _ ⟨m, rfl, hm, st, r1⟩)

def wire_Next (N : Nat) (p0 : List UInt8) (p1 : Int) : Option ((Int × List UInt8) × Int × Int) :=
  (if (decide (p1 < 0)) = true then (some true) else (some (decide (p1 > (List.length p0 : Int)))) : Option (Bool)).bind fun o1 => if o1 = true then (some ((0, ([] : List (UInt8))), 0, 3)) else ((if (p1 == (List.length p0 : Int)) = true then (some (0, 7)) else ((idx p0 p1).bind fun x1 => if ((x1.toNat : Int) != 247) = true then (some (0, 6)) else (some (IntKind.wrap .i64 (p1 + 1), 0))) : Option (Int × Int)).bind fun o2 => if (o2.2 != 0) = true then (some ((0, ([] : List (UInt8))), 0, o2.2)) else ((if (o2.1 == (List.length p0 : Int)) = true then (some (0, 7, 0)) else ((idx p0 o2.1).bind fun x2 => if ((x2.toNat : Int) == 0) = true then (some (0, 6, 0)) else ((idx p0 o2.1).bind fun x3 => some (IntKind.wrap .i64 (o2.1 + 1), 0, IntKind.wrap .i64 (x3.toNat : Int)))) : Option (Int × Int × Int)).bind fun o3 => if (o3.2.1 != 0) = true then (some ((0, ([] : List (UInt8))), 0, o3.2.1)) else (((wire_Uint N p0 o3.1).bind fun y1 => if (y1.2.2 != 0) = true then (some (0, y1.2.2, ([] : List (UInt8)))) else (if (decide (y1.1 > 2097152)) = true then (some (0, 2, ([] : List (UInt8)))) else (if (decide ((IntKind.wrap .i64 ((IntKind.wrap .i64 y1.1) + 4)) > (IntKind.wrap .i64 ((List.length p0 : Int) - y1.2.1)))) = true then (some (0, 7, ([] : List (UInt8)))) else ((subS p0 y1.2.1 (IntKind.wrap .i64 (y1.2.1 + (IntKind.wrap .i64 y1.1)))).bind fun l1 => (appendS 1 ([] : List (UInt8)) l1).bind fun l2 => some (IntKind.wrap .i64 (y1.2.1 + (IntKind.wrap .i64 y1.1)), 0, l2)))) : Option (Int × Int × List (UInt8))).bind fun o4 => if (o4.2.1 != 0) = true then (some ((0, ([] : List (UInt8))), 0, o4.2.1)) else (((idx p0 o4.1).bind fun x4 => (idx p0 (IntKind.wrap .i64 (o4.1 + 1))).bind fun x5 => (idx p0 (IntKind.wrap .i64 (o4.1 + 2))).bind fun x6 => (idx p0 (IntKind.wrap .i64 (o4.1 + 3))).bind fun x7 => (subS p0 (IntKind.wrap .i64 (p1 + 1)) o4.1).bind fun l3 => (wire_Checksum N l3).bind fun y2 => if ((iOr .u32 (iOr .u32 (iOr .u32 (IntKind.wrap .u32 (x4.toNat : Int)) (IntKind.wrap .u32 ((IntKind.wrap .u32 (x5.toNat : Int)) * 2 ^ 8))) (IntKind.wrap .u32 ((IntKind.wrap .u32 (x6.toNat : Int)) * 2 ^ 16))) (IntKind.wrap .u32 ((IntKind.wrap .u32 (x7.toNat : Int)) * 2 ^ 24))) != y2) = true then (some (0, 8)) else (some (IntKind.wrap .i64 (o4.1 + 4), 0)) : Option (Int × Int)).bind fun o5 => if (o5.2 != 0) = true then (some ((0, ([] : List (UInt8))), 0, o5.2)) else (some ((o3.2.2, o4.2.2), o5.1, 0))))))

set_option maxHeartbeats 4000000 in
set_option maxRecDepth 100000 in
theorem wire_Next_ok {N : Nat} {m : Mem} {own : List Piece} {w : World} {p0 : List UInt8} {p1 : Int} {a1 : Option Addr} {c1 : Nat} {r : (Int × List UInt8) × Int × Int} (st : St m (own) w) (r1 : RepS cU8 m a1 c1 p0) (hr : wire_Next N p0 p1 = some r) : Calls Go.Proofs.Try.prog 36 #[.slice a1 (List.length p0) c1, .int .i64 p1] w fun e w' => ∃ (ra1 : Option Addr) (rc1 : Nat) (m' : Mem), e = .returned (.tuple #[.agg #[.int .i64 r.1.1, .slice ra1 (List.length r.1.2) rc1], .int .i64 r.2.1, .int .i64 r.2.2]) ∧ m.le m' ∧ St m' (.room ra1 (List.length r.1.2) rc1 5 1 :: own) w' ∧ RepS cU8 m' ra1 rc1 r.1.2 := by
  unfold wire_Next at hr
  have hm := m.le_refl
  refine W_calls Go.Proofs.Try.func36 rfl Go.Proofs.Try.ntmps36 [(0, .slice a1 (List.length p0) c1), (1, .int .i64 p1)] (by kernel_rfl) rfl ?_
  refine W_seq ?_
  refine W_region ?_
  refine WO_one rfl (One_alloc (d := 4) (e := 54) (.agg #[.int .i64 0, .slice none 0 0]) (by kernel_rfl) rfl (by kernel_rfl) st ?_)
  clear st
  intro b1 w1 st
  refine WO_seg 2 [] (by kernel_rfl) (by kernel_rfl) ?_
  refine WO_end rfl ?_
  refine X_then ?_
  refine W_seq ?_
  refine W_seq ?_
  refine W_region ?_
  replace hr := bindS hr
  obtain ⟨o1, hr, hrK⟩ := hr
  refine WO_cut (j := 8) (fun L' w' => ∃ (m1 : Mem), L' = [(0, .slice a1 (List.length p0) c1), (1, .int .i64 p1), (4, .pointer (some ⟨b1, 0, none⟩)), (16, .bool o1)] ∧ m.le m1 ∧ St m1 (.blk b1 (.cells #[.int .i64 0, .slice none (List.length ([] : List (UInt8))) 0] 54 (0, 0)) :: own) w' ∧ RepS cU8 m1 a1 c1 p0) ?_ ?_
  · clear hr st
    have hr := hrK
    clear hrK
    rintro _ w2 ⟨m1, rfl, hm, st, r1⟩
    refine WO_end rfl ?_
    refine X_then ?_
    refine W_cond o1 (by kernel_rfl) ?_ ?_
    · intro hc
      rw [if_pos hc] at hr
      refine W_seq ?_
      refine W_region ?_
      refine WO_seg 1 [(17, .agg #[.int .i64 0, .slice none (List.length ([] : List (UInt8))) 0])] (by kernel_rfl) (by kernel_rfl) ?_
      refine WO_one rfl (One_store (t := 54) (x := (.tmp 4)) (y := (.tmp 17)) (v := .agg #[.int .i64 0, .slice none (List.length ([] : List (UInt8))) 0]) (c' := #[.int .i64 0, .slice none (List.length ([] : List (UInt8))) 0]) (by kernel_rfl) (show evL _ _ = some (.pointer (some ⟨b1, 0, none⟩)) from (by kernel_rfl)) (show evL _ _ = some (.agg #[.int .i64 0, .slice none (List.length ([] : List (UInt8))) 0]) from (by kernel_rfl)) st (by kernel_rfl) (by kernel_rfl) ?_)
      clear st
      intro w3 st
      refine WO_seg 2 [(5, .int .i64 0), (6, .int .i64 3)] (by kernel_rfl) (by kernel_rfl) ?_
      refine WO_end rfl ?_
      refine X_then ?_
      refine W_ret ?_
      refine X_then_ret ?_
      obtain rfl := Option.some.inj hr
      refine X_ret [.cell 4 54, .tmp 5, .tmp 6] [.agg #[.int .i64 0, .slice none (List.length ([] : List (UInt8))) 0], .int .i64 0, .int .i64 3] rfl (ResAll.cons (ResAt.blk (v := .agg #[.int .i64 0, .slice none (List.length ([] : List (UInt8))) 0]) (o := 0) (by kernel_rfl) st.head (by kernel_rfl)) (ResAll.cons (ResAt.tmp (by kernel_rfl)) (ResAll.cons (ResAt.tmp (by kernel_rfl)) ResAll.nil))) ?_
      have st := st.nilroom 5 1
      have st := st.front1
      have st := st.tail
      exact ⟨none, 0, m1, rfl, hm, st, (RepS.nil _ _)⟩
    · intro hc
      rw [if_neg (not_true hc)] at hr
      refine W_skip ?_
      refine X_then ?_
      refine W_seq ?_
      refine W_region ?_
      refine WO_seg 2 [(5, .int .i64 p1)] (by kernel_rfl) (by kernel_rfl) ?_
      refine WO_end rfl ?_
      refine X_then ?_
      refine W_seq ?_
      refine W_seq ?_
      refine W_region ?_
      refine WO_seg 1 [(19, .int .i64 p1)] (by kernel_rfl) (by kernel_rfl) ?_
      refine WO_one rfl (One_fn 20 68 #[.int .i64 p1] (by kernel_rfl) rfl ?_)
      refine W_calls Go.Proofs.Try.func68 rfl Go.Proofs.Try.ntmps68 [(0, .int .i64 p1)] (by kernel_rfl) rfl ?_
      refine W_seq ?_
      refine W_region ?_
      refine WO_one rfl (One_box_own (d := 1) (e := 3) (x := (.tmp 0)) (.int .i64 p1) (by kernel_rfl) rfl (by kernel_rfl) st ?_)
      clear st
      intro b2 w4 st
      refine WO_seg 1 [] (by kernel_rfl) (by kernel_rfl) ?_
      refine WO_end rfl ?_
      refine X_then ?_
      refine W_seq ?_
      refine W_region ?_
      refine WO_seg 5 [(3, .agg #[.func (.func 72) #[] #[]]), (4, .agg #[.func (.func 73) #[] #[]]), (5, .agg #[.func (.func 74) #[] #[]]), (7, .agg #[.func (.func 75) #[] #[.pointer (some ⟨b2, 0, none⟩)]])] (by kernel_rfl) (by kernel_rfl) ?_
      refine WO_one rfl (One_buildRaw (d := 8) (t := 102) (e := 106) (len := 4) (parts := #[(0, (.tmp 3)), (1, (.tmp 4)), (2, (.tmp 5)), (3, (.tmp 7))]) [.func (.func 72) #[] #[], .func (.func 73) #[] #[], .func (.func 74) #[] #[], .func (.func 75) #[] #[.pointer (some ⟨b2, 0, none⟩)]] (by kernel_rfl) rfl (fun _ => buildCells_run (by kernel_rfl) _) st ?_)
      clear st
      intro b3 m3 w5 hle2 st hb2
      have hm := Mem.le_trans hm hle2
      have r1 := r1.mono hle2
      refine WO_seg 1 [(2, .slice (some ⟨b3, 0, none⟩) 4 4)] (by kernel_rfl) (by kernel_rfl) ?_
      refine WO_end rfl ?_
      refine X_then ?_
      refine W_ret ?_
      refine X_ret [.tmp 2] [.slice (some ⟨b3, 0, none⟩) 4 4] rfl (ResAll.cons (ResAt.tmp (by kernel_rfl)) ResAll.nil) ?_
      refine ⟨_, rfl, ?_⟩
      refine WO_seg 2 [(21, .int .i64 4), (22, .int .i64 0)] (by kernel_rfl) (by kernel_rfl) ?_
      refine WO_end rfl ?_
      refine X_then ?_
      refine W_block ?_
      refine W_unroll 6 ?_
      refine WR_succ ?_
      refine W_seq ?_
      refine W_region ?_
      refine WO_seg 1 [(23, .bool true)] (by kernel_rfl) (by kernel_rfl) ?_
      refine WO_end rfl ?_
      refine X_then ?_
      refine W_seq ?_
      refine W_cond true (by kernel_rfl) ?_ (fun h => Bool.noConfusion h)
      intro _
      refine W_skip ?_
      refine X_then ?_
      refine W_seq ?_
      refine W_block ?_
      refine W_seq ?_
      refine W_region ?_
      refine WO_seg 1 [(24, .pointer (some ⟨b3, 0, none⟩))] (by kernel_rfl) (by kernel_rfl) ?_
      refine WO_one rfl (One_load_row (d := 25) (t := 106) (x := (.tmp 24)) (.agg #[.func (.func 72) #[] #[]]) (by kernel_rfl) rfl (show evL _ _ = some (.pointer (some ⟨b3, 0, none⟩)) from (by kernel_rfl)) st hb2 (by kernel_rfl) ?_)
      refine WO_one rfl (One_alloc (d := 8) (e := 106) (.agg #[.nilFunc]) (by kernel_rfl) rfl (by kernel_rfl) st ?_)
      clear st
      intro b4 w6 st
      refine WO_one rfl (One_store (t := 106) (x := (.tmp 8)) (y := (.tmp 25)) (v := .agg #[.func (.func 72) #[] #[]]) (c' := #[.func (.func 72) #[] #[]]) (by kernel_rfl) (show evL _ _ = some (.pointer (some ⟨b4, 0, none⟩)) from (by kernel_rfl)) (show evL _ _ = some (.agg #[.func (.func 72) #[] #[]]) from (by kernel_rfl)) st (by kernel_rfl) (by kernel_rfl) ?_)
      clear st
      intro w7 st
      refine WO_end rfl ?_
      refine X_then ?_
      refine W_seq ?_
      refine W_region ?_
      refine WO_seg 1 [(27, .pointer (some ⟨b4, 0, none⟩))] (by kernel_rfl) (by kernel_rfl) ?_
      refine WO_one rfl (One_load_own (d := 28) (t := 104) (x := (.tmp 27)) (.func (.func 72) #[] #[]) (by kernel_rfl) rfl (show evL _ _ = some (.pointer (some ⟨b4, 0, none⟩)) from (by kernel_rfl)) st.head (by kernel_rfl) ?_)
      refine WO_seg 2 [(29, .slice a1 (List.length p0) c1), (30, .int .i64 p1)] (by kernel_rfl) (by kernel_rfl) ?_
      replace hr := bindS hr
      obtain ⟨o2, hr, hrKu1⟩ := hr
      refine WO_one rfl (One_fn 31 72 #[.slice a1 (List.length p0) c1, .int .i64 p1, .pointer (some ⟨b1, 0, none⟩)] (by kernel_rfl) rfl ?_)
      refine Calls_cut (fun v' w' => ∃ (m4 : Mem), v' = (.tuple #[.int .i64 o2.1, .int .i64 o2.2]) ∧ m.le m4 ∧ St m4 (.blk b4 (.cells #[.func (.func 72) #[] #[]] 106 (0, 0)) :: .blk b2 (.cells #[.int .i64 p1] 3 (0, 0)) :: .blk b1 (.cells #[.int .i64 0, .slice none (List.length ([] : List (UInt8))) 0] 54 (0, 0)) :: own) w' ∧ RepS cU8 m4 a1 c1 p0 ∧ MRow m4 b3 0 [.func (.func 72) #[] #[], .func (.func 73) #[] #[], .func (.func 74) #[] #[], .func (.func 75) #[] #[.pointer (some ⟨b2, 0, none⟩)]]) ?_ ?_
      · clear hr st
        have hr := hrKu1
        clear hrKu1
        rintro _ w8 ⟨m4, rfl, hm, st, r1, hb2⟩
        refine ⟨_, rfl, ?_⟩
        refine WO_seg 5 [(5, .int .i64 o2.1), (6, .int .i64 o2.2)] (by kernel_rfl) (by kernel_rfl) ?_
        refine WO_end rfl ?_
        refine X_then ?_
        refine W_seq ?_
        refine W_region ?_
        refine WO_seg 2 [(35, .bool (o2.2 != 0))] (by kernel_rfl) (by kernel_rfl) ?_
        refine WO_end rfl ?_
        refine X_then ?_
        refine W_cond (o2.2 != 0) (by kernel_rfl) ?_ ?_
        · intro hc
          rw [if_pos hc] at hr
          refine W_seq ?_
          refine W_region ?_
          refine WO_seg 2 [(36, .agg #[.int .i64 0, .slice none (List.length ([] : List (UInt8))) 0]), (37, .int .i64 o2.2)] (by kernel_rfl) (by kernel_rfl) ?_
          have st := st.front2
          refine WO_one rfl (One_store (t := 54) (x := (.tmp 4)) (y := (.tmp 36)) (v := .agg #[.int .i64 0, .slice none (List.length ([] : List (UInt8))) 0]) (c' := #[.int .i64 0, .slice none (List.length ([] : List (UInt8))) 0]) (by kernel_rfl) (show evL _ _ = some (.pointer (some ⟨b1, 0, none⟩)) from (by kernel_rfl)) (show evL _ _ = some (.agg #[.int .i64 0, .slice none (List.length ([] : List (UInt8))) 0]) from (by kernel_rfl)) st (by kernel_rfl) (by kernel_rfl) ?_)
          clear st
          intro w9 st
          refine WO_seg 2 [(5, .int .i64 0), (6, .int .i64 o2.2)] (by kernel_rfl) (by kernel_rfl) ?_
          refine WO_end rfl ?_
          refine X_then ?_
          refine W_ret ?_
          refine X_block_ret ?_
          refine X_then_ret ?_
          refine X_then_ret ?_
          refine X_block_ret ?_
          refine X_then_ret ?_
          obtain rfl := Option.some.inj hr
          refine X_ret [.cell 4 54, .tmp 5, .tmp 6] [.agg #[.int .i64 0, .slice none (List.length ([] : List (UInt8))) 0], .int .i64 0, .int .i64 o2.2] rfl (ResAll.cons (ResAt.blk (v := .agg #[.int .i64 0, .slice none (List.length ([] : List (UInt8))) 0]) (o := 0) (by kernel_rfl) st.head (by kernel_rfl)) (ResAll.cons (ResAt.tmp (by kernel_rfl)) (ResAll.cons (ResAt.tmp (by kernel_rfl)) ResAll.nil))) ?_
          have st := st.nilroom 5 1
          have st := st.front1
          have st := st.tail
          have st := st.front1
          have st := st.tail
          have st := st.front1
          have st := st.tail
          exact ⟨none, 0, m4, rfl, hm, st, (RepS.nil _ _)⟩
        · intro hc
          rw [if_neg (not_true hc)] at hr
          refine W_skip ?_
          refine X_block ?_
          refine X_then ?_
          refine W_region ?_
          refine WO_seg 2 [(22, .int .i64 1)] (by kernel_rfl) (by kernel_rfl) ?_
          refine WO_end rfl ?_
          refine X_again ?_
          refine WR_succ ?_
          refine W_seq ?_
          refine W_region ?_
          refine WO_seg 1 [(23, .bool true)] (by kernel_rfl) (by kernel_rfl) ?_
          refine WO_end rfl ?_
          refine X_then ?_
          refine W_seq ?_
          refine W_cond true (by kernel_rfl) ?_ (fun h => Bool.noConfusion h)
          intro _
          refine W_skip ?_
          refine X_then ?_
          refine W_seq ?_
          refine W_block ?_
          refine W_seq ?_
          refine W_region ?_
          refine WO_seg 1 [(24, .pointer (some ⟨b3, 1, none⟩))] (by kernel_rfl) (by kernel_rfl) ?_
          refine WO_one rfl (One_load_row (d := 25) (t := 106) (x := (.tmp 24)) (.agg #[.func (.func 73) #[] #[]]) (by kernel_rfl) rfl (show evL _ _ = some (.pointer (some ⟨b3, 1, none⟩)) from (by kernel_rfl)) st (hb2.drop 1) (by kernel_rfl) ?_)
          refine WO_one rfl (One_alloc (d := 8) (e := 106) (.agg #[.nilFunc]) (by kernel_rfl) rfl (by kernel_rfl) st ?_)
          clear st
          intro b6 w10 st
          refine WO_one rfl (One_store (t := 106) (x := (.tmp 8)) (y := (.tmp 25)) (v := .agg #[.func (.func 73) #[] #[]]) (c' := #[.func (.func 73) #[] #[]]) (by kernel_rfl) (show evL _ _ = some (.pointer (some ⟨b6, 0, none⟩)) from (by kernel_rfl)) (show evL _ _ = some (.agg #[.func (.func 73) #[] #[]]) from (by kernel_rfl)) st (by kernel_rfl) (by kernel_rfl) ?_)
          clear st
          intro w11 st
          refine WO_end rfl ?_
          refine X_then ?_
          refine W_seq ?_
          refine W_region ?_
          refine WO_seg 1 [(27, .pointer (some ⟨b6, 0, none⟩))] (by kernel_rfl) (by kernel_rfl) ?_
          refine WO_one rfl (One_load_own (d := 28) (t := 104) (x := (.tmp 27)) (.func (.func 73) #[] #[]) (by kernel_rfl) rfl (show evL _ _ = some (.pointer (some ⟨b6, 0, none⟩)) from (by kernel_rfl)) st.head (by kernel_rfl) ?_)
          refine WO_seg 2 [(29, .slice a1 (List.length p0) c1), (30, .int .i64 o2.1)] (by kernel_rfl) (by kernel_rfl) ?_
          replace hr := bindS hr
          obtain ⟨o3, hr, hrKu2⟩ := hr
          refine WO_one rfl (One_fn 31 73 #[.slice a1 (List.length p0) c1, .int .i64 o2.1, .pointer (some ⟨b1, 0, none⟩)] (by kernel_rfl) rfl ?_)
          refine Calls_cut (fun v' w' => ∃ (m5 : Mem), v' = (.tuple #[.int .i64 o3.1, .int .i64 o3.2.1]) ∧ m.le m5 ∧ St m5 (.blk b6 (.cells #[.func (.func 73) #[] #[]] 106 (0, 0)) :: .blk b4 (.cells #[.func (.func 72) #[] #[]] 106 (0, 0)) :: .blk b2 (.cells #[.int .i64 p1] 3 (0, 0)) :: .blk b1 (.cells #[.int .i64 o3.2.2, .slice none (List.length ([] : List (UInt8))) 0] 54 (0, 0)) :: own) w' ∧ RepS cU8 m5 a1 c1 p0 ∧ MRow m5 b3 0 [.func (.func 72) #[] #[], .func (.func 73) #[] #[], .func (.func 74) #[] #[], .func (.func 75) #[] #[.pointer (some ⟨b2, 0, none⟩)]]) ?_ ?_
          · clear hr st
            have hr := hrKu2
            clear hrKu2
            rintro _ w12 ⟨m5, rfl, hm, st, r1, hb2⟩
            refine ⟨_, rfl, ?_⟩
            refine WO_seg 5 [(5, .int .i64 o3.1), (6, .int .i64 o3.2.1)] (by kernel_rfl) (by kernel_rfl) ?_
            refine WO_end rfl ?_
            refine X_then ?_
            refine W_seq ?_
            refine W_region ?_
            refine WO_seg 2 [(35, .bool (o3.2.1 != 0))] (by kernel_rfl) (by kernel_rfl) ?_
            refine WO_end rfl ?_
            refine X_then ?_
            refine W_cond (o3.2.1 != 0) (by kernel_rfl) ?_ ?_
            · intro hc
              rw [if_pos hc] at hr
              refine W_seq ?_
              refine W_region ?_
              refine WO_seg 2 [(36, .agg #[.int .i64 0, .slice none (List.length ([] : List (UInt8))) 0]), (37, .int .i64 o3.2.1)] (by kernel_rfl) (by kernel_rfl) ?_
              have st := st.front3
              refine WO_one rfl (One_store (t := 54) (x := (.tmp 4)) (y := (.tmp 36)) (v := .agg #[.int .i64 0, .slice none (List.length ([] : List (UInt8))) 0]) (c' := #[.int .i64 0, .slice none (List.length ([] : List (UInt8))) 0]) (by kernel_rfl) (show evL _ _ = some (.pointer (some ⟨b1, 0, none⟩)) from (by kernel_rfl)) (show evL _ _ = some (.agg #[.int .i64 0, .slice none (List.length ([] : List (UInt8))) 0]) from (by kernel_rfl)) st (by kernel_rfl) (by kernel_rfl) ?_)
              clear st
              intro w14 st
              refine WO_seg 2 [(5, .int .i64 0), (6, .int .i64 o3.2.1)] (by kernel_rfl) (by kernel_rfl) ?_
              refine WO_end rfl ?_
              refine X_then ?_
              refine W_ret ?_
              refine X_block_ret ?_
              refine X_then_ret ?_
              refine X_then_ret ?_
              refine X_block_ret ?_
              refine X_then_ret ?_
              obtain rfl := Option.some.inj hr
              refine X_ret [.cell 4 54, .tmp 5, .tmp 6] [.agg #[.int .i64 0, .slice none (List.length ([] : List (UInt8))) 0], .int .i64 0, .int .i64 o3.2.1] rfl (ResAll.cons (ResAt.blk (v := .agg #[.int .i64 0, .slice none (List.length ([] : List (UInt8))) 0]) (o := 0) (by kernel_rfl) st.head (by kernel_rfl)) (ResAll.cons (ResAt.tmp (by kernel_rfl)) (ResAll.cons (ResAt.tmp (by kernel_rfl)) ResAll.nil))) ?_
              have st := st.nilroom 5 1
              have st := st.front1
              have st := st.tail
              have st := st.front1
              have st := st.tail
              have st := st.front1
              have st := st.tail
              have st := st.front1
              have st := st.tail
              exact ⟨none, 0, m5, rfl, hm, st, (RepS.nil _ _)⟩
            · intro hc
              rw [if_neg (not_true hc)] at hr
              refine W_skip ?_
              refine X_block ?_
              refine X_then ?_
              refine W_region ?_
              refine WO_seg 2 [(22, .int .i64 2)] (by kernel_rfl) (by kernel_rfl) ?_
              refine WO_end rfl ?_
              refine X_again ?_
              refine WR_succ ?_
              refine W_seq ?_
              refine W_region ?_
              refine WO_seg 1 [(23, .bool true)] (by kernel_rfl) (by kernel_rfl) ?_
              refine WO_end rfl ?_
              refine X_then ?_
              refine W_seq ?_
              refine W_cond true (by kernel_rfl) ?_ (fun h => Bool.noConfusion h)
              intro _
              refine W_skip ?_
              refine X_then ?_
              refine W_seq ?_
              refine W_block ?_
              refine W_seq ?_
              refine W_region ?_
              refine WO_seg 1 [(24, .pointer (some ⟨b3, 2, none⟩))] (by kernel_rfl) (by kernel_rfl) ?_
              refine WO_one rfl (One_load_row (d := 25) (t := 106) (x := (.tmp 24)) (.agg #[.func (.func 74) #[] #[]]) (by kernel_rfl) rfl (show evL _ _ = some (.pointer (some ⟨b3, 2, none⟩)) from (by kernel_rfl)) st (hb2.drop 2) (by kernel_rfl) ?_)
              refine WO_one rfl (One_alloc (d := 8) (e := 106) (.agg #[.nilFunc]) (by kernel_rfl) rfl (by kernel_rfl) st ?_)
              clear st
              intro b9 w15 st
              refine WO_one rfl (One_store (t := 106) (x := (.tmp 8)) (y := (.tmp 25)) (v := .agg #[.func (.func 74) #[] #[]]) (c' := #[.func (.func 74) #[] #[]]) (by kernel_rfl) (show evL _ _ = some (.pointer (some ⟨b9, 0, none⟩)) from (by kernel_rfl)) (show evL _ _ = some (.agg #[.func (.func 74) #[] #[]]) from (by kernel_rfl)) st (by kernel_rfl) (by kernel_rfl) ?_)
              clear st
              intro w16 st
              refine WO_end rfl ?_
              refine X_then ?_
              refine W_seq ?_
              refine W_region ?_
              refine WO_seg 1 [(27, .pointer (some ⟨b9, 0, none⟩))] (by kernel_rfl) (by kernel_rfl) ?_
              refine WO_one rfl (One_load_own (d := 28) (t := 104) (x := (.tmp 27)) (.func (.func 74) #[] #[]) (by kernel_rfl) rfl (show evL _ _ = some (.pointer (some ⟨b9, 0, none⟩)) from (by kernel_rfl)) st.head (by kernel_rfl) ?_)
              refine WO_seg 2 [(29, .slice a1 (List.length p0) c1), (30, .int .i64 o3.1)] (by kernel_rfl) (by kernel_rfl) ?_
              replace hr := bindS hr
              obtain ⟨o4, hr, hrKu3⟩ := hr
              refine WO_one rfl (One_fn 31 74 #[.slice a1 (List.length p0) c1, .int .i64 o3.1, .pointer (some ⟨b1, 0, none⟩)] (by kernel_rfl) rfl ?_)
              refine Calls_cut (fun v' w' => ∃ (a2 : Option Addr) (c2 : Nat) (m6 : Mem), v' = (.tuple #[.int .i64 o4.1, .int .i64 o4.2.1]) ∧ m.le m6 ∧ St m6 (.blk b9 (.cells #[.func (.func 74) #[] #[]] 106 (0, 0)) :: .blk b6 (.cells #[.func (.func 73) #[] #[]] 106 (0, 0)) :: .blk b4 (.cells #[.func (.func 72) #[] #[]] 106 (0, 0)) :: .blk b2 (.cells #[.int .i64 p1] 3 (0, 0)) :: .blk b1 (.cells #[.int .i64 o3.2.2, .slice a2 (List.length o4.2.2) c2] 54 (0, 0)) :: .room a2 (List.length o4.2.2) c2 5 1 :: own) w' ∧ RepS cU8 m6 a1 c1 p0 ∧ MRow m6 b3 0 [.func (.func 72) #[] #[], .func (.func 73) #[] #[], .func (.func 74) #[] #[], .func (.func 75) #[] #[.pointer (some ⟨b2, 0, none⟩)]] ∧ RepS cU8 m6 a2 c2 o4.2.2) ?_ ?_
              · clear hr st
                have hr := hrKu3
                clear hrKu3
                rintro _ w17 ⟨a2, c2, m6, rfl, hm, st, r1, hb2, r2⟩
                refine ⟨_, rfl, ?_⟩
                refine WO_seg 5 [(5, .int .i64 o4.1), (6, .int .i64 o4.2.1)] (by kernel_rfl) (by kernel_rfl) ?_
                refine WO_end rfl ?_
                refine X_then ?_
                refine W_seq ?_
                refine W_region ?_
                refine WO_seg 2 [(35, .bool (o4.2.1 != 0))] (by kernel_rfl) (by kernel_rfl) ?_
                refine WO_end rfl ?_
                refine X_then ?_
                refine W_cond (o4.2.1 != 0) (by kernel_rfl) ?_ ?_
                · intro hc
                  rw [if_pos hc] at hr
                  refine W_seq ?_
                  refine W_region ?_
                  refine WO_seg 2 [(36, .agg #[.int .i64 0, .slice none (List.length ([] : List (UInt8))) 0]), (37, .int .i64 o4.2.1)] (by kernel_rfl) (by kernel_rfl) ?_
                  have st := st.front4
                  refine WO_one rfl (One_store (t := 54) (x := (.tmp 4)) (y := (.tmp 36)) (v := .agg #[.int .i64 0, .slice none (List.length ([] : List (UInt8))) 0]) (c' := #[.int .i64 0, .slice none (List.length ([] : List (UInt8))) 0]) (by kernel_rfl) (show evL _ _ = some (.pointer (some ⟨b1, 0, none⟩)) from (by kernel_rfl)) (show evL _ _ = some (.agg #[.int .i64 0, .slice none (List.length ([] : List (UInt8))) 0]) from (by kernel_rfl)) st (by kernel_rfl) (by kernel_rfl) ?_)
                  clear st
                  intro w21 st
                  refine WO_seg 2 [(5, .int .i64 0), (6, .int .i64 o4.2.1)] (by kernel_rfl) (by kernel_rfl) ?_
                  refine WO_end rfl ?_
                  have st := st.front5
                  have st := st.tail
                  refine X_then ?_
                  refine W_ret ?_
                  refine X_block_ret ?_
                  refine X_then_ret ?_
                  refine X_then_ret ?_
                  refine X_block_ret ?_
                  refine X_then_ret ?_
                  obtain rfl := Option.some.inj hr
                  refine X_ret [.cell 4 54, .tmp 5, .tmp 6] [.agg #[.int .i64 0, .slice none (List.length ([] : List (UInt8))) 0], .int .i64 0, .int .i64 o4.2.1] rfl (ResAll.cons (ResAt.blk (v := .agg #[.int .i64 0, .slice none (List.length ([] : List (UInt8))) 0]) (o := 0) (by kernel_rfl) st.head (by kernel_rfl)) (ResAll.cons (ResAt.tmp (by kernel_rfl)) (ResAll.cons (ResAt.tmp (by kernel_rfl)) ResAll.nil))) ?_
                  have st := st.nilroom 5 1
                  have st := st.front1
                  have st := st.tail
                  have st := st.front1
                  have st := st.tail
                  have st := st.front1
                  have st := st.tail
                  have st := st.front1
                  have st := st.tail
                  have st := st.front1
                  have st := st.tail
                  exact ⟨none, 0, m6, rfl, hm, st, (RepS.nil _ _)⟩
                · intro hc
                  rw [if_neg (not_true hc)] at hr
                  refine W_skip ?_
                  refine X_block ?_
                  refine X_then ?_
                  refine W_region ?_
                  refine WO_seg 2 [(22, .int .i64 3)] (by kernel_rfl) (by kernel_rfl) ?_
                  refine WO_end rfl ?_
                  refine X_again ?_
                  refine WR_succ ?_
                  refine W_seq ?_
                  refine W_region ?_
                  refine WO_seg 1 [(23, .bool true)] (by kernel_rfl) (by kernel_rfl) ?_
                  refine WO_end rfl ?_
                  refine X_then ?_
                  refine W_seq ?_
                  refine W_cond true (by kernel_rfl) ?_ (fun h => Bool.noConfusion h)
                  intro _
                  refine W_skip ?_
                  refine X_then ?_
                  refine W_seq ?_
                  refine W_block ?_
                  refine W_seq ?_
                  refine W_region ?_
                  refine WO_seg 1 [(24, .pointer (some ⟨b3, 3, none⟩))] (by kernel_rfl) (by kernel_rfl) ?_
                  refine WO_one rfl (One_load_row (d := 25) (t := 106) (x := (.tmp 24)) (.agg #[.func (.func 75) #[] #[.pointer (some ⟨b2, 0, none⟩)]]) (by kernel_rfl) rfl (show evL _ _ = some (.pointer (some ⟨b3, 3, none⟩)) from (by kernel_rfl)) st (hb2.drop 3) (by kernel_rfl) ?_)
                  refine WO_one rfl (One_alloc (d := 8) (e := 106) (.agg #[.nilFunc]) (by kernel_rfl) rfl (by kernel_rfl) st ?_)
                  clear st
                  intro b10 w22 st
                  refine WO_one rfl (One_store (t := 106) (x := (.tmp 8)) (y := (.tmp 25)) (v := .agg #[.func (.func 75) #[] #[.pointer (some ⟨b2, 0, none⟩)]]) (c' := #[.func (.func 75) #[] #[.pointer (some ⟨b2, 0, none⟩)]]) (by kernel_rfl) (show evL _ _ = some (.pointer (some ⟨b10, 0, none⟩)) from (by kernel_rfl)) (show evL _ _ = some (.agg #[.func (.func 75) #[] #[.pointer (some ⟨b2, 0, none⟩)]]) from (by kernel_rfl)) st (by kernel_rfl) (by kernel_rfl) ?_)
                  clear st
                  intro w23 st
                  refine WO_end rfl ?_
                  refine X_then ?_
                  refine W_seq ?_
                  refine W_region ?_
                  refine WO_seg 1 [(27, .pointer (some ⟨b10, 0, none⟩))] (by kernel_rfl) (by kernel_rfl) ?_
                  refine WO_one rfl (One_load_own (d := 28) (t := 104) (x := (.tmp 27)) (.func (.func 75) #[] #[.pointer (some ⟨b2, 0, none⟩)]) (by kernel_rfl) rfl (show evL _ _ = some (.pointer (some ⟨b10, 0, none⟩)) from (by kernel_rfl)) st.head (by kernel_rfl) ?_)
                  refine WO_seg 2 [(29, .slice a1 (List.length p0) c1), (30, .int .i64 o4.1)] (by kernel_rfl) (by kernel_rfl) ?_
                  replace hr := bindS hr
                  obtain ⟨o5, hr, hrKu4⟩ := hr
                  refine WO_one rfl (One_fn 31 75 #[.slice a1 (List.length p0) c1, .int .i64 o4.1, .pointer (some ⟨b1, 0, none⟩), .pointer (some ⟨b2, 0, none⟩)] (by kernel_rfl) rfl ?_)
                  refine Calls_cut (fun v' w' => ∃ (m9 : Mem), v' = (.tuple #[.int .i64 o5.1, .int .i64 o5.2]) ∧ m.le m9 ∧ St m9 (.blk b10 (.cells #[.func (.func 75) #[] #[.pointer (some ⟨b2, 0, none⟩)]] 106 (0, 0)) :: .blk b9 (.cells #[.func (.func 74) #[] #[]] 106 (0, 0)) :: .blk b6 (.cells #[.func (.func 73) #[] #[]] 106 (0, 0)) :: .blk b4 (.cells #[.func (.func 72) #[] #[]] 106 (0, 0)) :: .blk b2 (.cells #[.int .i64 p1] 3 (0, 0)) :: .blk b1 (.cells #[.int .i64 o3.2.2, .slice a2 (List.length o4.2.2) c2] 54 (0, 0)) :: .room a2 (List.length o4.2.2) c2 5 1 :: own) w' ∧ RepS cU8 m9 a1 c1 p0 ∧ MRow m9 b3 0 [.func (.func 72) #[] #[], .func (.func 73) #[] #[], .func (.func 74) #[] #[], .func (.func 75) #[] #[.pointer (some ⟨b2, 0, none⟩)]] ∧ RepS cU8 m9 a2 c2 o4.2.2) ?_ ?_
                  · clear hr st
                    have hr := hrKu4
                    clear hrKu4
                    rintro _ w24 ⟨m9, rfl, hm, st, r1, hb2, r2⟩
                    refine ⟨_, rfl, ?_⟩
                    refine WO_seg 5 [(5, .int .i64 o5.1), (6, .int .i64 o5.2)] (by kernel_rfl) (by kernel_rfl) ?_
                    refine WO_end rfl ?_
                    refine X_then ?_
                    refine W_seq ?_
                    refine W_region ?_
                    refine WO_seg 2 [(35, .bool (o5.2 != 0))] (by kernel_rfl) (by kernel_rfl) ?_
                    refine WO_end rfl ?_
                    refine X_then ?_
                    refine W_cond (o5.2 != 0) (by kernel_rfl) ?_ ?_
                    · intro hc
                      rw [if_pos hc] at hr
                      refine W_seq ?_
                      refine W_region ?_
                      refine WO_seg 2 [(36, .agg #[.int .i64 0, .slice none (List.length ([] : List (UInt8))) 0]), (37, .int .i64 o5.2)] (by kernel_rfl) (by kernel_rfl) ?_
                      have st := st.front5
                      refine WO_one rfl (One_store (t := 54) (x := (.tmp 4)) (y := (.tmp 36)) (v := .agg #[.int .i64 0, .slice none (List.length ([] : List (UInt8))) 0]) (c' := #[.int .i64 0, .slice none (List.length ([] : List (UInt8))) 0]) (by kernel_rfl) (show evL _ _ = some (.pointer (some ⟨b1, 0, none⟩)) from (by kernel_rfl)) (show evL _ _ = some (.agg #[.int .i64 0, .slice none (List.length ([] : List (UInt8))) 0]) from (by kernel_rfl)) st (by kernel_rfl) (by kernel_rfl) ?_)
                      clear st
                      intro w27 st
                      refine WO_seg 2 [(5, .int .i64 0), (6, .int .i64 o5.2)] (by kernel_rfl) (by kernel_rfl) ?_
                      refine WO_end rfl ?_
                      have st := st.front6
                      have st := st.tail
                      refine X_then ?_
                      refine W_ret ?_
                      refine X_block_ret ?_
                      refine X_then_ret ?_
                      refine X_then_ret ?_
                      refine X_block_ret ?_
                      refine X_then_ret ?_
                      obtain rfl := Option.some.inj hr
                      refine X_ret [.cell 4 54, .tmp 5, .tmp 6] [.agg #[.int .i64 0, .slice none (List.length ([] : List (UInt8))) 0], .int .i64 0, .int .i64 o5.2] rfl (ResAll.cons (ResAt.blk (v := .agg #[.int .i64 0, .slice none (List.length ([] : List (UInt8))) 0]) (o := 0) (by kernel_rfl) st.head (by kernel_rfl)) (ResAll.cons (ResAt.tmp (by kernel_rfl)) (ResAll.cons (ResAt.tmp (by kernel_rfl)) ResAll.nil))) ?_
                      have st := st.nilroom 5 1
                      have st := st.front1
                      have st := st.tail
                      have st := st.front1
                      have st := st.tail
                      have st := st.front1
                      have st := st.tail
                      have st := st.front1
                      have st := st.tail
                      have st := st.front1
                      have st := st.tail
                      have st := st.front1
                      have st := st.tail
                      exact ⟨none, 0, m9, rfl, hm, st, (RepS.nil _ _)⟩
                    · intro hc
                      rw [if_neg (not_true hc)] at hr
                      refine W_skip ?_
                      refine X_block ?_
                      refine X_then ?_
                      refine W_region ?_
                      refine WO_seg 2 [(22, .int .i64 4)] (by kernel_rfl) (by kernel_rfl) ?_
                      refine WO_end rfl ?_
                      refine X_again ?_
                      refine WR_succ ?_
                      refine W_seq ?_
                      refine W_region ?_
                      refine WO_seg 1 [(23, .bool false)] (by kernel_rfl) (by kernel_rfl) ?_
                      refine WO_end rfl ?_
                      refine X_then ?_
                      refine W_seq ?_
                      refine W_cond false (by kernel_rfl) (fun h => Bool.noConfusion h) ?_
                      intro _
                      refine W_exit ?_
                      refine X_then_exit ?_
                      refine X_then_exit ?_
                      refine X_block_eq ?_
                      refine X_then ?_
                      refine W_seq ?_
                      refine W_region ?_
                      refine WO_one rfl (One_load_own (d := 39) (t := 54) (x := (.tmp 4)) (.agg #[.int .i64 o3.2.2, .slice a2 (List.length o4.2.2) c2]) (by kernel_rfl) rfl (show evL _ _ = some (.pointer (some ⟨b1, 0, none⟩)) from (by kernel_rfl)) st.tail.tail.tail.tail.tail.head (by kernel_rfl) ?_)
                      refine WO_seg 1 [(40, .int .i64 o5.1)] (by kernel_rfl) (by kernel_rfl) ?_
                      have st := st.front5
                      refine WO_one rfl (One_store (t := 54) (x := (.tmp 4)) (y := (.tmp 39)) (v := .agg #[.int .i64 o3.2.2, .slice a2 (List.length o4.2.2) c2]) (c' := #[.int .i64 o3.2.2, .slice a2 (List.length o4.2.2) c2]) (by kernel_rfl) (show evL _ _ = some (.pointer (some ⟨b1, 0, none⟩)) from (by kernel_rfl)) (show evL _ _ = some (.agg #[.int .i64 o3.2.2, .slice a2 (List.length o4.2.2) c2]) from (by kernel_rfl)) st (by kernel_rfl) (by kernel_rfl) ?_)
                      clear st
                      intro w28 st
                      refine WO_seg 2 [(5, .int .i64 o5.1), (6, .int .i64 0)] (by kernel_rfl) (by kernel_rfl) ?_
                      refine WO_end rfl ?_
                      refine X_then ?_
                      refine W_ret ?_
                      obtain rfl := Option.some.inj hr
                      refine X_ret [.cell 4 54, .tmp 5, .tmp 6] [.agg #[.int .i64 o3.2.2, .slice a2 (List.length o4.2.2) c2], .int .i64 o5.1, .int .i64 0] rfl (ResAll.cons (ResAt.blk (v := .agg #[.int .i64 o3.2.2, .slice a2 (List.length o4.2.2) c2]) (o := 0) (by kernel_rfl) st.head (by kernel_rfl)) (ResAll.cons (ResAt.tmp (by kernel_rfl)) (ResAll.cons (ResAt.tmp (by kernel_rfl)) ResAll.nil))) ?_
                      have st := st.tail
                      have st := st.tail
                      have st := st.tail
                      have st := st.tail
                      have st := st.tail
                      have st := st.tail
                      exact ⟨a2, c2, m9, rfl, hm, st, r2⟩
                  · clear hrKu4
                    refine W_calls Go.Proofs.Try.func75 rfl Go.Proofs.Try.ntmps75 [(0, .slice a1 (List.length p0) c1), (1, .int .i64 o4.1), (2, .pointer (some ⟨b1, 0, none⟩)), (3, .pointer (some ⟨b2, 0, none⟩))] (by kernel_rfl) rfl ?_
                    refine W_seq ?_
                    refine W_region ?_
                    refine WO_seg 2 [] (by kernel_rfl) (by kernel_rfl) ?_
                    refine WO_end rfl ?_
                    refine X_then ?_
                    refine W_seq ?_
                    refine W_draw [(30, fun w' => Inv m6 w' ∧ True)] (by kernel_rfl) st ?_
                    clear st
                    intro w25 _ st
                    have hmS := m6.le_refl
                    refine ⟨⟨.inr ⟨Inv.anti st.inv hmS, trivial⟩, trivial⟩, ?_⟩
                    refine WA_pure 0 10 (.slice a1 (List.length p0) c1) (by kernel_rfl) rfl (by kernel_rfl) (.head _) (QP_then QP_body) ?_
                    refine WA_pure 1 11 (.int .i64 o4.1) (by kernel_rfl) rfl (by kernel_rfl) (.head _) (QP_then QP_body) ?_
                    replace hr := bindS hr
                    obtain ⟨x4, hx7, hr⟩ := hr
                    refine WA_index (t := 50) (e := 5) (x := (.tmp 10)) (y := (.tmp 11)) 2 12 cU8 (by kernel_rfl) rfl (by kernel_rfl) (.head _) (QP_then QP_body) (show evL _ _ = some (.slice a1 (List.length p0) c1) from (by kernel_rfl)) (show evL _ _ = some (.int .i64 o4.1) from (by kernel_rfl)) (by kernel_rfl) r1 hx7 ?_
                    rintro b11 f4 cs4 rfl hq4
                    refine WA_load_row (t := 5) (x := (.tmp 12)) 3 13 (.int .u8 (x4.toNat : Int)) (by kernel_rfl) rfl (by kernel_rfl) (.head _) (QP_then QP_body) (fun _ h => h.1) (show evL _ _ = some (.pointer (some ⟨b11, f4, none⟩)) from (by kernel_rfl)) hq4 (by kernel_rfl) ?_
                    refine WA_pure 4 14 (.int .u32 (IntKind.wrap .u32 (x4.toNat : Int))) (by kernel_rfl) rfl (by kernel_rfl) (.head _) (QP_then QP_body) ?_
                    refine WA_pure 5 15 (.slice a1 (List.length p0) c1) (by kernel_rfl) rfl (by kernel_rfl) (.head _) (QP_then QP_body) ?_
                    refine WA_pure 6 16 (.int .i64 o4.1) (by kernel_rfl) rfl (by kernel_rfl) (.head _) (QP_then QP_body) ?_
                    refine WA_pure 7 17 (.int .i64 (IntKind.wrap .i64 (o4.1 + 1))) (by kernel_rfl) rfl (by kernel_rfl) (.head _) (QP_then QP_body) ?_
                    replace hr := bindS hr
                    obtain ⟨x5, hx8, hr⟩ := hr
                    refine WA_index (t := 50) (e := 5) (x := (.tmp 15)) (y := (.tmp 17)) 8 18 cU8 (by kernel_rfl) rfl (by kernel_rfl) (.head _) (QP_then QP_body) (show evL _ _ = some (.slice a1 (List.length p0) c1) from (by kernel_rfl)) (show evL _ _ = some (.int .i64 (IntKind.wrap .i64 (o4.1 + 1))) from (by kernel_rfl)) (by kernel_rfl) r1 hx8 ?_
                    rintro b12 f5 cs5 rfl hq5
                    refine WA_load_row (t := 5) (x := (.tmp 18)) 9 19 (.int .u8 (x5.toNat : Int)) (by kernel_rfl) rfl (by kernel_rfl) (.head _) (QP_then QP_body) (fun _ h => h.1) (show evL _ _ = some (.pointer (some ⟨b12, f5, none⟩)) from (by kernel_rfl)) hq5 (by kernel_rfl) ?_
                    refine WA_pure 10 20 (.int .u32 (IntKind.wrap .u32 (x5.toNat : Int))) (by kernel_rfl) rfl (by kernel_rfl) (.head _) (QP_then QP_body) ?_
                    refine WA_pure 11 21 (.int .u32 (IntKind.wrap .u32 ((IntKind.wrap .u32 (x5.toNat : Int)) * 2 ^ 8))) (by kernel_rfl) rfl (by kernel_rfl) (.head _) (QP_then QP_body) ?_
                    refine WA_pure 12 22 (.int .u32 (iOr .u32 (IntKind.wrap .u32 (x4.toNat : Int)) (IntKind.wrap .u32 ((IntKind.wrap .u32 (x5.toNat : Int)) * 2 ^ 8)))) (by kernel_rfl) rfl (by kernel_rfl) (.head _) (QP_then QP_body) ?_
                    refine WA_pure 13 23 (.slice a1 (List.length p0) c1) (by kernel_rfl) rfl (by kernel_rfl) (.head _) (QP_then QP_body) ?_
                    refine WA_pure 14 24 (.int .i64 o4.1) (by kernel_rfl) rfl (by kernel_rfl) (.head _) (QP_then QP_body) ?_
                    refine WA_pure 15 25 (.int .i64 (IntKind.wrap .i64 (o4.1 + 2))) (by kernel_rfl) rfl (by kernel_rfl) (.head _) (QP_then QP_body) ?_
                    replace hr := bindS hr
                    obtain ⟨x6, hx9, hr⟩ := hr
                    refine WA_index (t := 50) (e := 5) (x := (.tmp 23)) (y := (.tmp 25)) 16 26 cU8 (by kernel_rfl) rfl (by kernel_rfl) (.head _) (QP_then QP_body) (show evL _ _ = some (.slice a1 (List.length p0) c1) from (by kernel_rfl)) (show evL _ _ = some (.int .i64 (IntKind.wrap .i64 (o4.1 + 2))) from (by kernel_rfl)) (by kernel_rfl) r1 hx9 ?_
                    rintro b13 f6 cs6 rfl hq6
                    refine WA_load_row (t := 5) (x := (.tmp 26)) 17 27 (.int .u8 (x6.toNat : Int)) (by kernel_rfl) rfl (by kernel_rfl) (.head _) (QP_then QP_body) (fun _ h => h.1) (show evL _ _ = some (.pointer (some ⟨b13, f6, none⟩)) from (by kernel_rfl)) hq6 (by kernel_rfl) ?_
                    refine WA_pure 18 28 (.int .u32 (IntKind.wrap .u32 (x6.toNat : Int))) (by kernel_rfl) rfl (by kernel_rfl) (.head _) (QP_then QP_body) ?_
                    refine WA_pure 19 29 (.int .u32 (IntKind.wrap .u32 ((IntKind.wrap .u32 (x6.toNat : Int)) * 2 ^ 16))) (by kernel_rfl) rfl (by kernel_rfl) (.head _) (QP_then QP_body) ?_
                    refine WA_pure 20 30 (.int .u32 (iOr .u32 (iOr .u32 (IntKind.wrap .u32 (x4.toNat : Int)) (IntKind.wrap .u32 ((IntKind.wrap .u32 (x5.toNat : Int)) * 2 ^ 8))) (IntKind.wrap .u32 ((IntKind.wrap .u32 (x6.toNat : Int)) * 2 ^ 16)))) (by kernel_rfl) rfl (by kernel_rfl) (.head _) (QP_then QP_body) ?_
                    refine WA_pure 21 31 (.slice a1 (List.length p0) c1) (by kernel_rfl) rfl (by kernel_rfl) (.head _) (QP_then QP_body) ?_
                    refine WA_pure 22 32 (.int .i64 o4.1) (by kernel_rfl) rfl (by kernel_rfl) (.head _) (QP_then QP_body) ?_
                    refine WA_pure 23 33 (.int .i64 (IntKind.wrap .i64 (o4.1 + 3))) (by kernel_rfl) rfl (by kernel_rfl) (.head _) (QP_then QP_body) ?_
                    replace hr := bindS hr
                    obtain ⟨x7, hx10, hr⟩ := hr
                    refine WA_index (t := 50) (e := 5) (x := (.tmp 31)) (y := (.tmp 33)) 24 34 cU8 (by kernel_rfl) rfl (by kernel_rfl) (.head _) (QP_then QP_body) (show evL _ _ = some (.slice a1 (List.length p0) c1) from (by kernel_rfl)) (show evL _ _ = some (.int .i64 (IntKind.wrap .i64 (o4.1 + 3))) from (by kernel_rfl)) (by kernel_rfl) r1 hx10 ?_
                    rintro b14 f7 cs7 rfl hq7
                    refine WA_load_row (t := 5) (x := (.tmp 34)) 25 35 (.int .u8 (x7.toNat : Int)) (by kernel_rfl) rfl (by kernel_rfl) (.head _) (QP_then QP_body) (fun _ h => h.1) (show evL _ _ = some (.pointer (some ⟨b14, f7, none⟩)) from (by kernel_rfl)) hq7 (by kernel_rfl) ?_
                    refine WA_pure 26 36 (.int .u32 (IntKind.wrap .u32 (x7.toNat : Int))) (by kernel_rfl) rfl (by kernel_rfl) (.head _) (QP_then QP_body) ?_
                    refine WA_pure 27 37 (.int .u32 (IntKind.wrap .u32 ((IntKind.wrap .u32 (x7.toNat : Int)) * 2 ^ 24))) (by kernel_rfl) rfl (by kernel_rfl) (.head _) (QP_then QP_body) ?_
                    refine WA_pure 28 38 (.int .u32 (iOr .u32 (iOr .u32 (iOr .u32 (IntKind.wrap .u32 (x4.toNat : Int)) (IntKind.wrap .u32 ((IntKind.wrap .u32 (x5.toNat : Int)) * 2 ^ 8))) (IntKind.wrap .u32 ((IntKind.wrap .u32 (x6.toNat : Int)) * 2 ^ 16))) (IntKind.wrap .u32 ((IntKind.wrap .u32 (x7.toNat : Int)) * 2 ^ 24)))) (by kernel_rfl) rfl (by kernel_rfl) (.head _) (QP_then QP_body) ?_
                    refine WA_pure 29 9 (.int .u32 (iOr .u32 (iOr .u32 (iOr .u32 (IntKind.wrap .u32 (x4.toNat : Int)) (IntKind.wrap .u32 ((IntKind.wrap .u32 (x5.toNat : Int)) * 2 ^ 8))) (IntKind.wrap .u32 ((IntKind.wrap .u32 (x6.toNat : Int)) * 2 ^ 16))) (IntKind.wrap .u32 ((IntKind.wrap .u32 (x7.toNat : Int)) * 2 ^ 24)))) (by kernel_rfl) rfl (by kernel_rfl) (.head _) (QP_then QP_body) ?_
                    refine WA_done (by kernel_rfl) ?_
                    refine X_then ?_
                    refine W_seq ?_
                    refine W_seq ?_
                    refine W_region ?_
                    refine WO_seg 2 [(39, .int .u32 (iOr .u32 (iOr .u32 (iOr .u32 (IntKind.wrap .u32 (x4.toNat : Int)) (IntKind.wrap .u32 ((IntKind.wrap .u32 (x5.toNat : Int)) * 2 ^ 8))) (IntKind.wrap .u32 ((IntKind.wrap .u32 (x6.toNat : Int)) * 2 ^ 16))) (IntKind.wrap .u32 ((IntKind.wrap .u32 (x7.toNat : Int)) * 2 ^ 24)))), (40, .slice a1 (List.length p0) c1)] (by kernel_rfl) (by kernel_rfl) ?_
                    refine WO_one rfl (One_load_own (d := 41) (t := 3) (x := (.tmp 3)) (.int .i64 p1) (by kernel_rfl) rfl (show evL _ _ = some (.pointer (some ⟨b2, 0, none⟩)) from (by kernel_rfl)) st.tail.tail.tail.tail.head (by kernel_rfl) ?_)
                    refine WO_seg 2 [(42, .int .i64 (IntKind.wrap .i64 (p1 + 1))), (43, .int .i64 o4.1)] (by kernel_rfl) (by kernel_rfl) ?_
                    replace hr := bindS hr
                    obtain ⟨l3, hx11, hr⟩ := hr
                    refine WO_one rfl (One_slice (d := 44) (t := 50) (e := 5) (x := (.tmp 40)) (lo := (some (.tmp 42))) (hi := (some (.tmp 43))) cU8 (by kernel_rfl) rfl (show evL _ _ = some (.slice a1 (List.length p0) c1) from (by kernel_rfl)) (by kernel_rfl) r1 (.inr ⟨_, _, rfl, (show evL _ _ = some (.int .i64 (IntKind.wrap .i64 (p1 + 1))) from (by kernel_rfl))⟩) (.inr ⟨_, _, rfl, (show evL _ _ = some (.int .i64 o4.1) from (by kernel_rfl))⟩) hx11 ?_)
                    intro a5 c5 r5
                    replace hr := bindS hr
                    obtain ⟨y2, hx12, hr⟩ := hr
                    refine WO_one rfl (One_fn 45 34 #[.slice a5 (List.length l3) c5] (by kernel_rfl) rfl ?_)
                    refine (wire_Checksum_ok st r5 hx12).mono ?_
                    clear st
                    rintro _ w26 ⟨m10, rfl, hle5, st⟩
                    refine ⟨_, rfl, ?_⟩
                    have hm := Mem.le_trans hm hle5
                    have r1 := r1.mono hle5
                    have r5 := r5.mono hle5
                    have hb2 := hb2.mono hle5
                    have r2 := r2.mono hle5
                    refine WO_seg 1 [(46, .bool ((iOr .u32 (iOr .u32 (iOr .u32 (IntKind.wrap .u32 (x4.toNat : Int)) (IntKind.wrap .u32 ((IntKind.wrap .u32 (x5.toNat : Int)) * 2 ^ 8))) (IntKind.wrap .u32 ((IntKind.wrap .u32 (x6.toNat : Int)) * 2 ^ 16))) (IntKind.wrap .u32 ((IntKind.wrap .u32 (x7.toNat : Int)) * 2 ^ 24))) != y2))] (by kernel_rfl) (by kernel_rfl) ?_
                    refine WO_end rfl ?_
                    refine X_then ?_
                    refine W_cond ((iOr .u32 (iOr .u32 (iOr .u32 (IntKind.wrap .u32 (x4.toNat : Int)) (IntKind.wrap .u32 ((IntKind.wrap .u32 (x5.toNat : Int)) * 2 ^ 8))) (IntKind.wrap .u32 ((IntKind.wrap .u32 (x6.toNat : Int)) * 2 ^ 16))) (IntKind.wrap .u32 ((IntKind.wrap .u32 (x7.toNat : Int)) * 2 ^ 24))) != y2) (by kernel_rfl) ?_ ?_
                    · intro hc
                      rw [if_pos hc] at hr
                      refine W_seq ?_
                      refine W_region ?_
                      refine WO_seg 2 [(7, .int .i64 0), (8, .int .i64 8)] (by kernel_rfl) (by kernel_rfl) ?_
                      refine WO_end rfl ?_
                      refine X_then ?_
                      refine W_ret ?_
                      refine X_then_ret ?_
                      obtain rfl := Option.some.inj hr
                      refine X_ret [.tmp 7, .tmp 8] [.int .i64 0, .int .i64 8] rfl (ResAll.cons (ResAt.tmp (by kernel_rfl)) (ResAll.cons (ResAt.tmp (by kernel_rfl)) ResAll.nil)) ?_
                      have st := st.front6
                      have st := st.front6
                      have st := st.front6
                      have st := st.front6
                      have st := st.front6
                      have st := st.front6
                      have st := st.front6
                      exact ⟨_, rfl, ⟨m10, rfl, hm, st, r1, hb2, r2⟩⟩
                    · intro hc
                      rw [if_neg (not_true hc)] at hr
                      refine W_skip ?_
                      refine X_then ?_
                      refine W_seq ?_
                      refine W_region ?_
                      refine WO_seg 4 [(7, .int .i64 (IntKind.wrap .i64 (o4.1 + 4))), (8, .int .i64 0)] (by kernel_rfl) (by kernel_rfl) ?_
                      refine WO_end rfl ?_
                      refine X_then ?_
                      refine W_ret ?_
                      obtain rfl := Option.some.inj hr
                      refine X_ret [.tmp 7, .tmp 8] [.int .i64 (IntKind.wrap .i64 (o4.1 + 4)), .int .i64 0] rfl (ResAll.cons (ResAt.tmp (by kernel_rfl)) (ResAll.cons (ResAt.tmp (by kernel_rfl)) ResAll.nil)) ?_
                      have st := st.front6
                      have st := st.front6
                      have st := st.front6
                      have st := st.front6
                      have st := st.front6
                      have st := st.front6
                      have st := st.front6
                      exact ⟨_, rfl, ⟨m10, rfl, hm, st, r1, hb2, r2⟩⟩
              · clear hrKu3
                refine W_calls Go.Proofs.Try.func74 rfl Go.Proofs.Try.ntmps74 [(0, .slice a1 (List.length p0) c1), (1, .int .i64 o3.1), (2, .pointer (some ⟨b1, 0, none⟩))] (by kernel_rfl) rfl ?_
                refine W_seq ?_
                refine W_region ?_
                refine WO_seg 2 [] (by kernel_rfl) (by kernel_rfl) ?_
                refine WO_end rfl ?_
                refine X_then ?_
                refine W_seq ?_
                refine W_region ?_
                refine WO_seg 2 [(12, .slice a1 (List.length p0) c1), (13, .int .i64 o3.1)] (by kernel_rfl) (by kernel_rfl) ?_
                replace hr := bindS hr
                obtain ⟨y1, hx4, hr⟩ := hr
                refine WO_one rfl (One_fn 14 49 #[.slice a1 (List.length p0) c1, .int .i64 o3.1] (by kernel_rfl) rfl ?_)
                refine (wire_Uint_ok st r1 hx4).mono ?_
                clear st
                rintro _ w18 ⟨m7, rfl, hle3, st⟩
                refine ⟨_, rfl, ?_⟩
                have hm := Mem.le_trans hm hle3
                have r1 := r1.mono hle3
                have hb2 := hb2.mono hle3
                refine WO_seg 7 [(8, .int .u64 y1.1), (9, .int .i64 y1.2.1), (10, .int .i64 y1.2.2)] (by kernel_rfl) (by kernel_rfl) ?_
                refine WO_end rfl ?_
                refine X_then ?_
                refine W_seq ?_
                refine W_block ?_
                refine W_seq ?_
                refine W_region ?_
                refine WO_seg 3 [(18, .bool (y1.2.2 != 0))] (by kernel_rfl) (by kernel_rfl) ?_
                refine WO_end rfl ?_
                refine X_then ?_
                refine W_cond (y1.2.2 != 0) (by kernel_rfl) ?_ ?_
                · intro hc
                  rw [if_pos hc] at hr
                  refine W_seq ?_
                  refine W_region ?_
                  refine WO_seg 3 [(6, .int .i64 0), (7, .int .i64 y1.2.2)] (by kernel_rfl) (by kernel_rfl) ?_
                  refine WO_end rfl ?_
                  refine X_then ?_
                  refine W_ret ?_
                  refine X_block_ret ?_
                  refine X_then_ret ?_
                  obtain rfl := Option.some.inj hr
                  refine X_ret [.tmp 6, .tmp 7] [.int .i64 0, .int .i64 y1.2.2] rfl (ResAll.cons (ResAt.tmp (by kernel_rfl)) (ResAll.cons (ResAt.tmp (by kernel_rfl)) ResAll.nil)) ?_
                  have st := st.nilroom 5 1
                  have st := st.front5
                  have st := st.front5
                  have st := st.front5
                  have st := st.front5
                  have st := st.front5
                  exact ⟨_, rfl, ⟨none, 0, m7, rfl, hm, st, r1, hb2, (RepS.nil _ _)⟩⟩
                · intro hc
                  rw [if_neg (not_true hc)] at hr
                  refine W_seq ?_
                  refine W_region ?_
                  refine WO_seg 3 [(22, .bool (decide (y1.1 > 2097152)))] (by kernel_rfl) (by kernel_rfl) ?_
                  refine WO_end rfl ?_
                  refine X_then ?_
                  refine W_cond (decide (y1.1 > 2097152)) (by kernel_rfl) ?_ ?_
                  · intro hc
                    rw [if_pos hc] at hr
                    refine W_seq ?_
                    refine W_region ?_
                    refine WO_seg 2 [(6, .int .i64 0), (7, .int .i64 2)] (by kernel_rfl) (by kernel_rfl) ?_
                    refine WO_end rfl ?_
                    refine X_then ?_
                    refine W_ret ?_
                    refine X_block_ret ?_
                    refine X_then_ret ?_
                    obtain rfl := Option.some.inj hr
                    refine X_ret [.tmp 6, .tmp 7] [.int .i64 0, .int .i64 2] rfl (ResAll.cons (ResAt.tmp (by kernel_rfl)) (ResAll.cons (ResAt.tmp (by kernel_rfl)) ResAll.nil)) ?_
                    have st := st.nilroom 5 1
                    have st := st.front5
                    have st := st.front5
                    have st := st.front5
                    have st := st.front5
                    have st := st.front5
                    exact ⟨_, rfl, ⟨none, 0, m7, rfl, hm, st, r1, hb2, (RepS.nil _ _)⟩⟩
                  · intro hc
                    rw [if_neg (not_true hc)] at hr
                    refine W_seq ?_
                    refine W_region ?_
                    refine WO_seg 9 [(25, .bool (decide ((IntKind.wrap .i64 ((IntKind.wrap .i64 y1.1) + 4)) > (IntKind.wrap .i64 ((List.length p0 : Int) - y1.2.1)))))] (by kernel_rfl) (by kernel_rfl) ?_
                    refine WO_end rfl ?_
                    refine X_then ?_
                    refine W_cond (decide ((IntKind.wrap .i64 ((IntKind.wrap .i64 y1.1) + 4)) > (IntKind.wrap .i64 ((List.length p0 : Int) - y1.2.1)))) (by kernel_rfl) ?_ ?_
                    · intro hc
                      rw [if_pos hc] at hr
                      refine W_seq ?_
                      refine W_region ?_
                      refine WO_seg 2 [(6, .int .i64 0), (7, .int .i64 7)] (by kernel_rfl) (by kernel_rfl) ?_
                      refine WO_end rfl ?_
                      refine X_then ?_
                      refine W_ret ?_
                      refine X_block_ret ?_
                      refine X_then_ret ?_
                      obtain rfl := Option.some.inj hr
                      refine X_ret [.tmp 6, .tmp 7] [.int .i64 0, .int .i64 7] rfl (ResAll.cons (ResAt.tmp (by kernel_rfl)) (ResAll.cons (ResAt.tmp (by kernel_rfl)) ResAll.nil)) ?_
                      have st := st.nilroom 5 1
                      have st := st.front5
                      have st := st.front5
                      have st := st.front5
                      have st := st.front5
                      have st := st.front5
                      exact ⟨_, rfl, ⟨none, 0, m7, rfl, hm, st, r1, hb2, (RepS.nil _ _)⟩⟩
                    · intro hc
                      rw [if_neg (not_true hc)] at hr
                      refine W_skip ?_
                      refine X_block ?_
                      refine X_then ?_
                      refine W_seq ?_
                      refine W_region ?_
                      refine WO_seg 7 [(34, .pointer (some ⟨b1, 0, none⟩)), (35, .slice a1 (List.length p0) c1), (36, .int .i64 y1.2.1), (40, .int .i64 (IntKind.wrap .i64 (y1.2.1 + (IntKind.wrap .i64 y1.1))))] (by kernel_rfl) (by kernel_rfl) ?_
                      replace hr := bindS hr
                      obtain ⟨l1, hx5, hr⟩ := hr
                      refine WO_one rfl (One_slice (d := 41) (t := 50) (e := 5) (x := (.tmp 35)) (lo := (some (.tmp 36))) (hi := (some (.tmp 40))) cU8 (by kernel_rfl) rfl (show evL _ _ = some (.slice a1 (List.length p0) c1) from (by kernel_rfl)) (by kernel_rfl) r1 (.inr ⟨_, _, rfl, (show evL _ _ = some (.int .i64 y1.2.1) from (by kernel_rfl))⟩) (.inr ⟨_, _, rfl, (show evL _ _ = some (.int .i64 (IntKind.wrap .i64 (y1.2.1 + (IntKind.wrap .i64 y1.1)))) from (by kernel_rfl))⟩) hx5 ?_)
                      intro a3 c3 r3
                      have st := st.nilroom 5 1
                      replace hr := bindS hr
                      obtain ⟨l2, hx6, hr⟩ := hr
                      refine WO_one rfl (One_append (d := 42) (t := 50) (u := 50) (e := 5) (by_ := 1) (x := (.const (.slice none 0 0))) (y := (.tmp 41)) cU8 (by kernel_rfl) rfl (show evL _ _ = some (.slice none (List.length ([] : List (UInt8))) 0) from (by kernel_rfl)) (show evL _ _ = some (.slice a3 (List.length l1) c3) from (by kernel_rfl)) st (by kernel_rfl) (.inl (by kernel_rfl)) (RepS.nil _ _) r3.src hx6 ?_)
                      clear st
                      intro a4 c4 m8 w19 hle4 st r4
                      have hm := Mem.le_trans hm hle4
                      have r1 := r1.mono hle4
                      have r3 := r3.mono hle4
                      have hb2 := hb2.mono hle4
                      refine WO_seg 2 [(44, .pointer (some ⟨b1, 1, none⟩))] (by kernel_rfl) (by kernel_rfl) ?_
                      have st := st.front5
                      refine WO_one rfl (One_store (t := 50) (x := (.tmp 44)) (y := (.tmp 42)) (v := .slice a4 (List.length l2) c4) (c' := #[.int .i64 o3.2.2, .slice a4 (List.length l2) c4]) (by kernel_rfl) (show evL _ _ = some (.pointer (some ⟨b1, 1, none⟩)) from (by kernel_rfl)) (show evL _ _ = some (.slice a4 (List.length l2) c4) from (by kernel_rfl)) st (by kernel_rfl) (by kernel_rfl) ?_)
                      clear st
                      intro w20 st
                      refine WO_end rfl ?_
                      refine X_then ?_
                      refine W_seq ?_
                      refine W_region ?_
                      refine WO_seg 6 [(6, .int .i64 (IntKind.wrap .i64 (y1.2.1 + (IntKind.wrap .i64 y1.1)))), (7, .int .i64 0)] (by kernel_rfl) (by kernel_rfl) ?_
                      refine WO_end rfl ?_
                      refine X_then ?_
                      refine W_ret ?_
                      obtain rfl := Option.some.inj hr
                      refine X_ret [.tmp 6, .tmp 7] [.int .i64 (IntKind.wrap .i64 (y1.2.1 + (IntKind.wrap .i64 y1.1))), .int .i64 0] rfl (ResAll.cons (ResAt.tmp (by kernel_rfl)) (ResAll.cons (ResAt.tmp (by kernel_rfl)) ResAll.nil)) ?_
                      have st := st.front1
                      have st := st.front1
                      have st := st.front5
                      have st := st.front5
                      have st := st.front5
                      have st := st.front5
                      exact ⟨_, rfl, ⟨a4, c4, m8, rfl, hm, st, r1, hb2, r4⟩⟩
          · clear hrKu2
            refine W_calls Go.Proofs.Try.func73 rfl Go.Proofs.Try.ntmps73 [(0, .slice a1 (List.length p0) c1), (1, .int .i64 o2.1), (2, .pointer (some ⟨b1, 0, none⟩))] (by kernel_rfl) rfl ?_
            refine W_seq ?_
            refine W_region ?_
            refine WO_seg 2 [] (by kernel_rfl) (by kernel_rfl) ?_
            refine WO_end rfl ?_
            refine X_then ?_
            refine W_seq ?_
            refine W_block ?_
            refine W_seq ?_
            refine W_region ?_
            refine WO_seg 5 [(8, .bool (o2.1 == (List.length p0 : Int)))] (by kernel_rfl) (by kernel_rfl) ?_
            refine WO_end rfl ?_
            refine X_then ?_
            refine W_cond (o2.1 == (List.length p0 : Int)) (by kernel_rfl) ?_ ?_
            · intro hc
              rw [if_pos hc] at hr
              refine W_seq ?_
              refine W_region ?_
              refine WO_seg 2 [(6, .int .i64 0), (7, .int .i64 7)] (by kernel_rfl) (by kernel_rfl) ?_
              refine WO_end rfl ?_
              refine X_then ?_
              refine W_ret ?_
              refine X_block_ret ?_
              refine X_then_ret ?_
              obtain rfl := Option.some.inj hr
              refine X_ret [.tmp 6, .tmp 7] [.int .i64 0, .int .i64 7] rfl (ResAll.cons (ResAt.tmp (by kernel_rfl)) (ResAll.cons (ResAt.tmp (by kernel_rfl)) ResAll.nil)) ?_
              have st := st.front3
              have st := st.front3
              have st := st.front3
              have st := st.front3
              exact ⟨_, rfl, ⟨m4, rfl, hm, st, r1, hb2⟩⟩
            · intro hc
              rw [if_neg (not_true hc)] at hr
              refine W_seq ?_
              refine W_region ?_
              refine WO_seg 2 [(14, .slice a1 (List.length p0) c1), (15, .int .i64 o2.1)] (by kernel_rfl) (by kernel_rfl) ?_
              replace hr := bindS hr
              obtain ⟨x2, hx2, hr⟩ := hr
              refine WO_one rfl (One_index (d := 16) (t := 50) (e := 5) (x := (.tmp 14)) (y := (.tmp 15)) cU8 (by kernel_rfl) rfl (show evL _ _ = some (.slice a1 (List.length p0) c1) from (by kernel_rfl)) (show evL _ _ = some (.int .i64 o2.1) from (by kernel_rfl)) (by kernel_rfl) r1 hx2 ?_)
              rintro b7 f2 cs2 rfl hq2
              refine WO_one rfl (One_load_row (d := 17) (t := 5) (x := (.tmp 16)) (.int .u8 (x2.toNat : Int)) (by kernel_rfl) rfl (show evL _ _ = some (.pointer (some ⟨b7, f2, none⟩)) from (by kernel_rfl)) st hq2 (by kernel_rfl) ?_)
              refine WO_seg 2 [(13, .bool ((x2.toNat : Int) == 0))] (by kernel_rfl) (by kernel_rfl) ?_
              refine WO_end rfl ?_
              refine X_then ?_
              refine W_cond ((x2.toNat : Int) == 0) (by kernel_rfl) ?_ ?_
              · intro hc
                rw [if_pos hc] at hr
                refine W_seq ?_
                refine W_region ?_
                refine WO_seg 2 [(6, .int .i64 0), (7, .int .i64 6)] (by kernel_rfl) (by kernel_rfl) ?_
                refine WO_end rfl ?_
                refine X_then ?_
                refine W_ret ?_
                refine X_block_ret ?_
                refine X_then_ret ?_
                obtain rfl := Option.some.inj hr
                refine X_ret [.tmp 6, .tmp 7] [.int .i64 0, .int .i64 6] rfl (ResAll.cons (ResAt.tmp (by kernel_rfl)) (ResAll.cons (ResAt.tmp (by kernel_rfl)) ResAll.nil)) ?_
                have st := st.front3
                have st := st.front3
                have st := st.front3
                have st := st.front3
                exact ⟨_, rfl, ⟨m4, rfl, hm, st, r1, hb2⟩⟩
              · intro hc
                rw [if_neg (not_true hc)] at hr
                refine W_skip ?_
                refine X_block ?_
                refine X_then ?_
                refine W_seq ?_
                refine W_region ?_
                refine WO_seg 3 [(19, .pointer (some ⟨b1, 0, none⟩)), (20, .slice a1 (List.length p0) c1), (21, .int .i64 o2.1)] (by kernel_rfl) (by kernel_rfl) ?_
                replace hr := bindS hr
                obtain ⟨x3, hx3, hr⟩ := hr
                refine WO_one rfl (One_index (d := 22) (t := 50) (e := 5) (x := (.tmp 20)) (y := (.tmp 21)) cU8 (by kernel_rfl) rfl (show evL _ _ = some (.slice a1 (List.length p0) c1) from (by kernel_rfl)) (show evL _ _ = some (.int .i64 o2.1) from (by kernel_rfl)) (by kernel_rfl) r1 hx3 ?_)
                rintro b8 f3 cs3 rfl hq3
                refine WO_one rfl (One_load_row (d := 23) (t := 5) (x := (.tmp 22)) (.int .u8 (x3.toNat : Int)) (by kernel_rfl) rfl (show evL _ _ = some (.pointer (some ⟨b8, f3, none⟩)) from (by kernel_rfl)) st hq3 (by kernel_rfl) ?_)
                refine WO_seg 3 [(24, .int .i64 (IntKind.wrap .i64 (x3.toNat : Int))), (26, .pointer (some ⟨b1, 0, none⟩))] (by kernel_rfl) (by kernel_rfl) ?_
                have st := st.front3
                refine WO_one rfl (One_store (t := 3) (x := (.tmp 26)) (y := (.tmp 24)) (v := .int .i64 (IntKind.wrap .i64 (x3.toNat : Int))) (c' := #[.int .i64 (IntKind.wrap .i64 (x3.toNat : Int)), .slice none (List.length ([] : List (UInt8))) 0]) (by kernel_rfl) (show evL _ _ = some (.pointer (some ⟨b1, 0, none⟩)) from (by kernel_rfl)) (show evL _ _ = some (.int .i64 (IntKind.wrap .i64 (x3.toNat : Int))) from (by kernel_rfl)) st (by kernel_rfl) (by kernel_rfl) ?_)
                clear st
                intro w13 st
                refine WO_end rfl ?_
                refine X_then ?_
                refine W_seq ?_
                refine W_region ?_
                refine WO_seg 4 [(6, .int .i64 (IntKind.wrap .i64 (o2.1 + 1))), (7, .int .i64 0)] (by kernel_rfl) (by kernel_rfl) ?_
                refine WO_end rfl ?_
                refine X_then ?_
                refine W_ret ?_
                obtain rfl := Option.some.inj hr
                refine X_ret [.tmp 6, .tmp 7] [.int .i64 (IntKind.wrap .i64 (o2.1 + 1)), .int .i64 0] rfl (ResAll.cons (ResAt.tmp (by kernel_rfl)) (ResAll.cons (ResAt.tmp (by kernel_rfl)) ResAll.nil)) ?_
                have st := st.front3
                have st := st.front3
                have st := st.front3
                exact ⟨_, rfl, ⟨m4, rfl, hm, st, r1, hb2⟩⟩
      · clear hrKu1
        refine W_calls Go.Proofs.Try.func72 rfl Go.Proofs.Try.ntmps72 [(0, .slice a1 (List.length p0) c1), (1, .int .i64 p1), (2, .pointer (some ⟨b1, 0, none⟩))] (by kernel_rfl) rfl ?_
        refine W_seq ?_
        refine W_region ?_
        refine WO_seg 2 [] (by kernel_rfl) (by kernel_rfl) ?_
        refine WO_end rfl ?_
        refine X_then ?_
        refine W_seq ?_
        refine W_block ?_
        refine W_seq ?_
        refine W_region ?_
        refine WO_seg 5 [(8, .bool (p1 == (List.length p0 : Int)))] (by kernel_rfl) (by kernel_rfl) ?_
        refine WO_end rfl ?_
        refine X_then ?_
        refine W_cond (p1 == (List.length p0 : Int)) (by kernel_rfl) ?_ ?_
        · intro hc
          rw [if_pos hc] at hr
          refine W_seq ?_
          refine W_region ?_
          refine WO_seg 2 [(6, .int .i64 0), (7, .int .i64 7)] (by kernel_rfl) (by kernel_rfl) ?_
          refine WO_end rfl ?_
          refine X_then ?_
          refine W_ret ?_
          refine X_block_ret ?_
          refine X_then_ret ?_
          obtain rfl := Option.some.inj hr
          refine X_ret [.tmp 6, .tmp 7] [.int .i64 0, .int .i64 7] rfl (ResAll.cons (ResAt.tmp (by kernel_rfl)) (ResAll.cons (ResAt.tmp (by kernel_rfl)) ResAll.nil)) ?_
          have st := st.front2
          have st := st.front2
          have st := st.front2
          exact ⟨_, rfl, ⟨m3, rfl, hm, st, r1, hb2⟩⟩
        · intro hc
          rw [if_neg (not_true hc)] at hr
          refine W_seq ?_
          refine W_region ?_
          refine WO_seg 2 [(14, .slice a1 (List.length p0) c1), (15, .int .i64 p1)] (by kernel_rfl) (by kernel_rfl) ?_
          replace hr := bindS hr
          obtain ⟨x1, hx1, hr⟩ := hr
          refine WO_one rfl (One_index (d := 16) (t := 50) (e := 5) (x := (.tmp 14)) (y := (.tmp 15)) cU8 (by kernel_rfl) rfl (show evL _ _ = some (.slice a1 (List.length p0) c1) from (by kernel_rfl)) (show evL _ _ = some (.int .i64 p1) from (by kernel_rfl)) (by kernel_rfl) r1 hx1 ?_)
          rintro b5 f1 cs1 rfl hq1
          refine WO_one rfl (One_load_row (d := 17) (t := 5) (x := (.tmp 16)) (.int .u8 (x1.toNat : Int)) (by kernel_rfl) rfl (show evL _ _ = some (.pointer (some ⟨b5, f1, none⟩)) from (by kernel_rfl)) st hq1 (by kernel_rfl) ?_)
          refine WO_seg 2 [(13, .bool ((x1.toNat : Int) != 247))] (by kernel_rfl) (by kernel_rfl) ?_
          refine WO_end rfl ?_
          refine X_then ?_
          refine W_cond ((x1.toNat : Int) != 247) (by kernel_rfl) ?_ ?_
          · intro hc
            rw [if_pos hc] at hr
            refine W_seq ?_
            refine W_region ?_
            refine WO_seg 2 [(6, .int .i64 0), (7, .int .i64 6)] (by kernel_rfl) (by kernel_rfl) ?_
            refine WO_end rfl ?_
            refine X_then ?_
            refine W_ret ?_
            refine X_block_ret ?_
            refine X_then_ret ?_
            obtain rfl := Option.some.inj hr
            refine X_ret [.tmp 6, .tmp 7] [.int .i64 0, .int .i64 6] rfl (ResAll.cons (ResAt.tmp (by kernel_rfl)) (ResAll.cons (ResAt.tmp (by kernel_rfl)) ResAll.nil)) ?_
            have st := st.front2
            have st := st.front2
            have st := st.front2
            exact ⟨_, rfl, ⟨m3, rfl, hm, st, r1, hb2⟩⟩
          · intro hc
            rw [if_neg (not_true hc)] at hr
            refine W_skip ?_
            refine X_block ?_
            refine X_then ?_
            refine W_seq ?_
            refine W_region ?_
            refine WO_seg 4 [(6, .int .i64 (IntKind.wrap .i64 (p1 + 1))), (7, .int .i64 0)] (by kernel_rfl) (by kernel_rfl) ?_
            refine WO_end rfl ?_
            refine X_then ?_
            refine W_ret ?_
            obtain rfl := Option.some.inj hr
            refine X_ret [.tmp 6, .tmp 7] [.int .i64 (IntKind.wrap .i64 (p1 + 1)), .int .i64 0] rfl (ResAll.cons (ResAt.tmp (by kernel_rfl)) (ResAll.cons (ResAt.tmp (by kernel_rfl)) ResAll.nil)) ?_
            have st := st.front2
            have st := st.front2
            have st := st.front2
            exact ⟨_, rfl, ⟨m3, rfl, hm, st, r1, hb2⟩⟩
  · intro K
    clear hrK
    refine WO_seg 3 [(11, .bool (decide (p1 < 0)))] (by kernel_rfl) (by kernel_rfl) ?_
    rcases bcases (decide (p1 < 0)) with hc | hc
    · rw [if_pos hc] at hr
      refine WO_fact (t := 11) (b := true) (decide (p1 < 0)) (by kernel_rfl) hc ?_
      refine WO_seg 5 [(16, .bool true)] (by kernel_rfl) (by kernel_rfl) ?_
      obtain rfl := Option.some.inj hr
      exact WO_env _ (by kernel_rfl) (K _ _ ⟨m, rfl, hm, st, r1⟩)
    · rw [if_neg (not_true hc)] at hr
      refine WO_fact (t := 11) (b := false) (decide (p1 < 0)) (by kernel_rfl) hc ?_
      refine WO_seg 5 [(16, .bool (decide (p1 > (List.length p0 : Int))))] (by kernel_rfl) (by kernel_rfl) ?_
      obtain rfl := Option.some.inj hr
      exact WO_env _ (by kernel_rfl) (K _ _ ⟨m, rfl, hm, st, r1⟩)

def wire_Frames_L1 (N : Nat) (p0 : List UInt8) (s1 : Int × Int × Int × (List (Int × List UInt8)) × Nat) : Option ((Int × Int × Int × (List (Int × List UInt8)) × Nat) ⊕ ((Int × Int × (List (Int × List UInt8)) × Nat) ⊕ (Int × Int × (List (Int × List UInt8)) × Nat))) :=
  if (decide (s1.1 < (List.length p0 : Int))) = true then ((wire_Next N p0 s1.1).bind fun y1 => (if s1.2.2.2.2 = 0 then (if (y1.2.2 != 0) = true then (some (true, y1.2.2, s1.2.2.1, s1.2.2.2.1, 1)) else ((appendS 32 s1.2.2.2.1 ([(y1.1.1, y1.1.2)])).bind fun l2 => some (y1.2.2 != 0, s1.2.1, y1.2.1, l2, 0))) else none : Option (Bool × Int × Int × (List (Int × List UInt8)) × Nat)).bind fun o3 => if o3.1 = true then (some (.inr (.inr ((o3.2.1, o3.2.2.1, o3.2.2.2.1, o3.2.2.2.2))))) else (some (.inl (y1.2.1, o3.2.1, o3.2.2.1, o3.2.2.2.1, o3.2.2.2.2)))) else (some (.inr (.inl (s1.2.1, s1.2.2.1, s1.2.2.2.1, s1.2.2.2.2))))

def wire_Frames (N : Nat) (p0 : List UInt8) : Option ((List (Int × List UInt8)) × Int × Int) :=
  ((loopM (wire_Frames_L1 N p0) N (0, 0, 0, ([] : List (Int × List UInt8)), 0)).bind fun out1 => (match out1 with | .inl o2 => some (o2.1, o2.2.1, o2.2.2.1, o2.2.2.2) | .inr (z) => some z) : Option (Int × Int × (List (Int × List UInt8)) × Nat)).bind fun o1 => if o1.2.2.2 = 0 then (some (o1.2.2.1, o1.2.1, 0)) else (if o1.2.2.2 = 1 then (some (o1.2.2.1, o1.2.1, o1.1)) else none)

set_option maxHeartbeats 4000000 in
set_option maxRecDepth 100000 in
theorem wire_Frames_ok {N : Nat} {m : Mem} {own : List Piece} {w : World} {p0 : List UInt8} {a1 : Option Addr} {c1 : Nat} {r : (List (Int × List UInt8)) × Int × Int} (st : St m (own) w) (r1 : RepS cU8 m a1 c1 p0) (hr : wire_Frames N p0 = some r) : Calls Go.Proofs.Try.prog 39 #[.slice a1 (List.length p0) c1] w fun e w' => ∃ (ra1 : Option Addr) (rc1 : Nat) (m' : Mem), e = .returned (.tuple #[.slice ra1 (List.length r.1) rc1, .int .i64 r.2.1, .int .i64 r.2.2]) ∧ m.le m' ∧ St m' (.room ra1 (List.length r.1) rc1 54 2 :: own) w' ∧ RepS (cPair (cInt .i64) (cSl cU8)) m' ra1 rc1 r.1 := by
  unfold wire_Frames at hr
  have hm := m.le_refl
  refine W_callsM Go.Proofs.Try.func39 rfl Go.Proofs.Try.ntmps39 [(0, .slice a1 (List.length p0) c1)] (by kernel_rfl) rfl ?_
  refine W_seq ?_
  refine W_region ?_
  refine WO_one rfl (One_alloc (d := 2) (e := 62) (.slice none 0 0) (by kernel_rfl) rfl (by kernel_rfl) st ?_)
  clear st
  intro b1 w1 st
  refine WO_one rfl (One_alloc (d := 3) (e := 3) (.int .i64 0) (by kernel_rfl) rfl (by kernel_rfl) st ?_)
  clear st
  intro b2 w2 st
  refine WO_one rfl (One_alloc (d := 4) (e := 26) (.int .i64 0) (by kernel_rfl) rfl (by kernel_rfl) st ?_)
  clear st
  intro b3 w3 st
  refine WO_end rfl ?_
  refine X_then ?_
  refine W_seq ?_
  refine W_seq ?_
  refine W_region ?_
  refine WO_seg 1 [(7, .slice a1 (List.length p0) c1)] (by kernel_rfl) (by kernel_rfl) ?_
  refine WO_one rfl (One_fn 8 69 #[.slice a1 (List.length p0) c1] (by kernel_rfl) rfl ?_)
  refine W_calls Go.Proofs.Try.func69 rfl Go.Proofs.Try.ntmps69 [(0, .slice a1 (List.length p0) c1)] (by kernel_rfl) rfl ?_
  refine W_seq ?_
  refine W_region ?_
  refine WO_one rfl (One_box_own (d := 1) (e := 50) (x := (.tmp 0)) (.slice a1 (List.length p0) c1) (by kernel_rfl) rfl (by kernel_rfl) st ?_)
  clear st
  intro b4 w4 st
  refine WO_seg 1 [] (by kernel_rfl) (by kernel_rfl) ?_
  refine WO_end rfl ?_
  refine X_then ?_
  refine W_seq ?_
  refine W_region ?_
  refine WO_seg 2 [(2, .func (.func 76) #[] #[.pointer (some ⟨b4, 0, none⟩)])] (by kernel_rfl) (by kernel_rfl) ?_
  refine WO_end rfl ?_
  refine X_then ?_
  refine W_ret ?_
  refine X_ret [.tmp 2] [.func (.func 76) #[] #[.pointer (some ⟨b4, 0, none⟩)]] rfl (ResAll.cons (ResAt.tmp (by kernel_rfl)) ResAll.nil) ?_
  refine ⟨_, rfl, ?_⟩
  refine WO_end rfl ?_
  refine X_then ?_
  refine W_block ?_
  refine W_rangeFunc (f := 76) (cap := #[.pointer (some ⟨b4, 0, none⟩)]) [.ret] (by kernel_rfl) (enters_at Go.Proofs.Try.func76 (by kernel_rfl)) st ?_
  clear st
  intro q1 l1 w5 hpq1 haq1 hbq1 htq1 st
  replace hr := bindS hr
  obtain ⟨o1, hr, hrKu1⟩ := hr
  refine Calls_cut (fun v' w' => ∃ (a2 : Option Addr) (c2 : Nat) (m2 : Mem), v' = (.tuple #[]) ∧ m.le m2 ∧ St m2 (.blk b4 (.cells #[.slice a1 (List.length p0) c1] 50 (0, 0)) :: .blk b3 (.cells #[.int .i64 o1.1] 26 (0, 0)) :: .blk b2 (.cells #[.int .i64 o1.2.1] 3 (0, 0)) :: .blk b1 (.cells #[.slice a2 (List.length o1.2.2.1) c2] 62 (0, 0)) :: lpiece l1 q1 [.ret] o1.2.2.2 :: dpiece q1.D :: .room a2 (List.length o1.2.2.1) c2 54 2 :: own) w' ∧ RepS cU8 m2 a1 c1 p0 ∧ RepS (cPair (cInt .i64) (cSl cU8)) m2 a2 c2 o1.2.2.1) ?_ ?_
  · clear hr st
    have hr := hrKu1
    clear hrKu1
    rintro _ w6 ⟨a2, c2, m2, rfl, hm, st, r1, r2⟩
    refine ⟨_, rfl, ?_⟩
    have st := st.front4
    by_cases hj2 : o1.2.2.2 = 0
    · rw [if_pos hj2] at hr
      rw [hj2] at st
      refine After_none 0 st rfl ?_
      clear st
      intro w27 st
      refine X_block ?_
      refine X_then ?_
      refine W_seq ?_
      refine W_draw [(5, fun w' => Inv m2 w' ∧ True), (3, fun w' => Inv m2 w' ∧ Piece.holds m2 w' (.blk b2 (.cells #[.int .i64 o1.2.1] 3 (0, 0))) ∧ True), (2, fun w' => Inv m2 w' ∧ Piece.holds m2 w' (.blk b1 (.cells #[.slice a2 (List.length o1.2.2.1) c2] 62 (0, 0))) ∧ True)] (by kernel_rfl) st ?_
      clear st
      intro w28 _ st
      have hmS := m2.le_refl
      refine ⟨⟨.inr ⟨Inv.anti st.inv hmS, trivial⟩, ⟨.inr ⟨Inv.anti st.inv hmS, Piece.holds_anti st.tail.tail.head hmS, trivial⟩, ⟨.inr ⟨Inv.anti st.inv hmS, Piece.holds_anti st.tail.tail.tail.head hmS, trivial⟩, trivial⟩⟩⟩, ?_⟩
      refine WA_load_own (t := 62) (x := (.tmp 2)) 0 23 (.slice a2 (List.length o1.2.2.1) c2) (by kernel_rfl) rfl (by kernel_rfl) (.tail _ (.tail _ (.head _))) (QP_then QP_bodyQ) (fun _ h => h.2.1) (show evL _ _ = some (.pointer (some ⟨b1, 0, none⟩)) from (by kernel_rfl)) (by kernel_rfl) ?_
      refine WA_load_own (t := 3) (x := (.tmp 3)) 1 24 (.int .i64 o1.2.1) (by kernel_rfl) rfl (by kernel_rfl) (.tail _ (.head _)) (QP_then QP_bodyQ) (fun _ h => h.2.1) (show evL _ _ = some (.pointer (some ⟨b2, 0, none⟩)) from (by kernel_rfl)) (by kernel_rfl) ?_
      have st := st.front3
      refine WA_one 2 (by kernel_rfl) (One_store (t := 62) (x := (.tmp 2)) (y := (.tmp 23)) (v := .slice a2 (List.length o1.2.2.1) c2) (c' := #[.slice a2 (List.length o1.2.2.1) c2]) (by kernel_rfl) (show evL _ _ = some (.pointer (some ⟨b1, 0, none⟩)) from (by kernel_rfl)) (show evL _ _ = some (.slice a2 (List.length o1.2.2.1) c2) from (by kernel_rfl)) st (by kernel_rfl) (by kernel_rfl) ?_)
      clear st
      intro w29 st
      refine ⟨⟨.inr ⟨Inv.anti st.inv hmS, trivial⟩, ⟨.inr ⟨Inv.anti st.inv hmS, Piece.holds_anti st.tail.tail.tail.head hmS, trivial⟩, ⟨.inl rfl, trivial⟩⟩⟩, ?_⟩
      have st := st.front3
      refine WA_one 3 (by kernel_rfl) (One_store (t := 3) (x := (.tmp 3)) (y := (.tmp 24)) (v := .int .i64 o1.2.1) (c' := #[.int .i64 o1.2.1]) (by kernel_rfl) (show evL _ _ = some (.pointer (some ⟨b2, 0, none⟩)) from (by kernel_rfl)) (show evL _ _ = some (.int .i64 o1.2.1) from (by kernel_rfl)) st (by kernel_rfl) (by kernel_rfl) ?_)
      clear st
      intro w30 st
      refine ⟨⟨.inr ⟨Inv.anti st.inv hmS, trivial⟩, ⟨.inl rfl, ⟨.inl rfl, trivial⟩⟩⟩, ?_⟩
      have st := st.front3
      refine WA_one 4 (by kernel_rfl) (One_store (t := 26) (x := (.tmp 4)) (y := (.const (.int .i64 0))) (v := .int .i64 0) (c' := #[.int .i64 0]) (by kernel_rfl) (show evL _ _ = some (.pointer (some ⟨b3, 0, none⟩)) from (by kernel_rfl)) (show evL _ _ = some (.int .i64 0) from (by kernel_rfl)) st (by kernel_rfl) (by kernel_rfl) ?_)
      clear st
      intro w31 st
      refine ⟨⟨.inr ⟨Inv.anti st.inv hmS, trivial⟩, ⟨.inl rfl, ⟨.inl rfl, trivial⟩⟩⟩, ?_⟩
      refine WA_done (by kernel_rfl) ?_
      refine X_then ?_
      refine W_ret ?_
      obtain rfl := Option.some.inj hr
      have st := st.front4
      refine X_take st ?_
      clear st
      intro w32 st
      refine X_retM [.cell 2 62, .cell 3 3, .cell 4 26] [.slice a2 (List.length o1.2.2.1) c2, .int .i64 o1.2.1, .int .i64 0] rfl (ResAll.cons (ResAt.blk (v := .slice a2 (List.length o1.2.2.1) c2) (o := 0) (by kernel_rfl) st.tail.tail.head (by kernel_rfl)) (ResAll.cons (ResAt.blk (v := .int .i64 o1.2.1) (o := 0) (by kernel_rfl) st.tail.head (by kernel_rfl)) (ResAll.cons (ResAt.blk (v := .int .i64 0) (o := 0) (by kernel_rfl) st.head (by kernel_rfl)) ResAll.nil))) ?_
      have st := st.tail
      have st := st.tail
      have st := st.tail
      have st := st.tail
      exact ⟨a2, c2, m2, rfl, hm, st, r2⟩
    · rw [if_neg hj2] at hr
      by_cases hj3 : o1.2.2.2 = 1
      · rw [if_pos hj3] at hr
        rw [hj3] at st
        refine After_some 1 st rfl ?_
        clear st
        intro w33 st
        refine W_ret ?_
        refine X_block_ret ?_
        refine X_then_ret ?_
        obtain rfl := Option.some.inj hr
        have st := st.front4
        refine X_take st ?_
        clear st
        intro w34 st
        refine X_retM [.cell 2 62, .cell 3 3, .cell 4 26] [.slice a2 (List.length o1.2.2.1) c2, .int .i64 o1.2.1, .int .i64 o1.1] rfl (ResAll.cons (ResAt.blk (v := .slice a2 (List.length o1.2.2.1) c2) (o := 0) (by kernel_rfl) st.tail.tail.tail.head (by kernel_rfl)) (ResAll.cons (ResAt.blk (v := .int .i64 o1.2.1) (o := 0) (by kernel_rfl) st.tail.tail.head (by kernel_rfl)) (ResAll.cons (ResAt.blk (v := .int .i64 o1.1) (o := 0) (by kernel_rfl) st.tail.head (by kernel_rfl)) ResAll.nil))) ?_
        have st := st.tail
        have st := st.tail
        have st := st.tail
        have st := st.tail
        exact ⟨a2, c2, m2, rfl, hm, st, r2⟩
      · rw [if_neg hj3] at hr
        cases hr
  · clear hrKu1
    refine W_calls Go.Proofs.Try.func76 rfl Go.Proofs.Try.ntmps76 [(0, .func (.yield l1) #[] #[]), (1, .pointer (some ⟨b4, 0, none⟩))] (by kernel_rfl) rfl ?_
    refine W_seq ?_
    refine W_region ?_
    refine WO_seg 1 [(3, .int .i64 0)] (by kernel_rfl) (by kernel_rfl) ?_
    refine WO_end rfl ?_
    refine X_then ?_
    refine W_block ?_
    replace hr := bindS hr
    obtain ⟨out1, hr, hrKu2⟩ := hr
    refine W_cut (.exit 0) (fun L' w' => ∃ (o2 : Int × Int × (List (Int × List UInt8)) × Nat) (a3 : Option Addr) (c3 : Nat) (m3 : Mem), (.inl o2) = out1 ∧ L' = [] ∧ m.le m3 ∧ St m3 (.blk b4 (.cells #[.slice a1 (List.length p0) c1] 50 (0, 0)) :: .blk b3 (.cells #[.int .i64 o2.1] 26 (0, 0)) :: .blk b2 (.cells #[.int .i64 o2.2.1] 3 (0, 0)) :: .blk b1 (.cells #[.slice a3 (List.length o2.2.2.1) c3] 62 (0, 0)) :: lpiece l1 q1 [.ret] o2.2.2.2 :: dpiece q1.D :: .room a3 (List.length o2.2.2.1) c3 54 2 :: own) w' ∧ RepS cU8 m3 a1 c1 p0 ∧ RepS (cPair (cInt .i64) (cSl cU8)) m3 a3 c3 o2.2.2.1) ?_ ?_
    · clear hr st
      rintro _ w7 ⟨o2, a3, c3, m3, rfl, rfl, hm, st, r1, r3⟩
      have hr := hrKu2
      clear hrKu2
      dsimp only at hr
      refine X_block_eq ?_
      obtain rfl := Option.some.inj hr
      refine X_fall [] [] rfl ResAll.nil ?_
      have st := st.front6
      have st := st.front6
      have st := st.front6
      have st := st.front6
      have st := st.front6
      have st := st.front6
      have st := st.front6
      exact ⟨_, rfl, ⟨a3, c3, m3, rfl, hm, st, r1, r3⟩⟩
    intro K0_u2
    have st := st.nilroom 54 2
    have st := st.front2
    have st := st.front2
    have st := st.front6
    have st := st.front6
    have st := st.front6
    have st := st.front6
    refine W_env _ (by kernel_rfl) (W_loop (fun k1 L' w' => ∃ (s1 : Int × Int × Int × (List (Int × List UInt8)) × Nat) (a4 : Option Addr) (c4 : Nat) (m4 : Mem), loopM (wire_Frames_L1 N p0) k1 s1 = some out1 ∧ L' = [(0, .func (.yield l1) #[] #[]), (1, .pointer (some ⟨b4, 0, none⟩)), (3, .int .i64 s1.1)] ∧ m.le m4 ∧ St m4 (.blk b4 (.cells #[.slice a1 (List.length p0) c1] 50 (0, 0)) :: .blk b3 (.cells #[.int .i64 s1.2.1] 26 (0, 0)) :: .blk b2 (.cells #[.int .i64 s1.2.2.1] 3 (0, 0)) :: .blk b1 (.cells #[.slice a4 (List.length s1.2.2.2.1) c4] 62 (0, 0)) :: lpiece l1 q1 [.ret] s1.2.2.2.2 :: dpiece q1.D :: .room a4 (List.length s1.2.2.2.1) c4 54 2 :: own) w' ∧ RepS cU8 m4 a1 c1 p0 ∧ RepS (cPair (cInt .i64) (cSl cU8)) m4 a4 c4 s1.2.2.2.1) N ⟨(0, 0, 0, ([] : List (Int × List UInt8)), 0), none, 0, m, hr, rfl, hm, st, r1, (RepS.nil _ _)⟩ ?_)
    clear st hr
    rintro k1 _ w8 ⟨s1, a4, c4, m4, hL, rfl, hm, st, r1, r4⟩
    rcases k1 with _ | k1
    · exact loopM_zero hL
    · obtain ⟨qu2, hr, hSu2, hBu2⟩ := loopM_succ hL
      clear hL
      unfold wire_Frames_L1 at hr
      refine W_seq ?_
      refine W_seq ?_
      refine W_region ?_
      refine WO_seg 1 [(7, .int .i64 s1.1)] (by kernel_rfl) (by kernel_rfl) ?_
      refine WO_one rfl (One_load_own (d := 8) (t := 50) (x := (.tmp 1)) (.slice a1 (List.length p0) c1) (by kernel_rfl) rfl (show evL _ _ = some (.pointer (some ⟨b4, 0, none⟩)) from (by kernel_rfl)) st.head (by kernel_rfl) ?_)
      refine WO_seg 2 [(10, .bool (decide (s1.1 < (List.length p0 : Int))))] (by kernel_rfl) (by kernel_rfl) ?_
      refine WO_end rfl ?_
      refine X_then ?_
      refine W_cond (decide (s1.1 < (List.length p0 : Int))) (by kernel_rfl) ?_ ?_
      · intro hc
        rw [if_pos hc] at hr
        refine W_skip ?_
        refine X_then ?_
        refine W_block ?_
        refine W_seq ?_
        refine W_region ?_
        refine WO_one rfl (One_load_own (d := 12) (t := 50) (x := (.tmp 1)) (.slice a1 (List.length p0) c1) (by kernel_rfl) rfl (show evL _ _ = some (.pointer (some ⟨b4, 0, none⟩)) from (by kernel_rfl)) st.head (by kernel_rfl) ?_)
        refine WO_seg 1 [(13, .int .i64 s1.1)] (by kernel_rfl) (by kernel_rfl) ?_
        replace hr := bindS hr
        obtain ⟨y1, hx1, hr⟩ := hr
        refine WO_one rfl (One_fn 14 36 #[.slice a1 (List.length p0) c1, .int .i64 s1.1] (by kernel_rfl) rfl ?_)
        refine (wire_Next_ok st r1 hx1).mono ?_
        clear st
        rintro _ w9 ⟨a5, c5, m5, rfl, hle2, st, r5⟩
        refine ⟨_, rfl, ?_⟩
        have hm := Mem.le_trans hm hle2
        have r1 := r1.mono hle2
        have r4 := r4.mono hle2
        refine WO_seg 4 [(15, .agg #[.int .i64 y1.1.1, .slice a5 (List.length y1.1.2) c5]), (16, .int .i64 y1.2.1), (17, .int .i64 y1.2.2)] (by kernel_rfl) (by kernel_rfl) ?_
        refine WO_one rfl (One_alloc (d := 4) (e := 54) (.agg #[.int .i64 0, .slice none 0 0]) (by kernel_rfl) rfl (by kernel_rfl) st ?_)
        clear st
        intro b5 w10 st
        refine WO_one rfl (One_store (t := 54) (x := (.tmp 4)) (y := (.tmp 15)) (v := .agg #[.int .i64 y1.1.1, .slice a5 (List.length y1.1.2) c5]) (c' := #[.int .i64 y1.1.1, .slice a5 (List.length y1.1.2) c5]) (by kernel_rfl) (show evL _ _ = some (.pointer (some ⟨b5, 0, none⟩)) from (by kernel_rfl)) (show evL _ _ = some (.agg #[.int .i64 y1.1.1, .slice a5 (List.length y1.1.2) c5]) from (by kernel_rfl)) st (by kernel_rfl) (by kernel_rfl) ?_)
        clear st
        intro w11 st
        refine WO_seg 2 [(5, .int .i64 y1.2.1), (6, .int .i64 y1.2.2)] (by kernel_rfl) (by kernel_rfl) ?_
        refine WO_end rfl ?_
        refine X_then ?_
        refine W_seq ?_
        refine W_seq ?_
        refine W_region ?_
        replace hr := bindS hr
        obtain ⟨o3, hr, hrK⟩ := hr
        refine WO_cut (j := 11) (fun L' w' => ∃ (a6 : Option Addr) (c6 : Nat) (m6 : Mem), L' = [(0, .func (.yield l1) #[] #[]), (1, .pointer (some ⟨b4, 0, none⟩)), (5, .int .i64 y1.2.1), (28, .bool o3.1)] ∧ m.le m6 ∧ St m6 (.blk b5 (.cells #[.int .i64 y1.1.1, .slice a5 (List.length y1.1.2) c5] 54 (0, 0)) :: .blk b4 (.cells #[.slice a1 (List.length p0) c1] 50 (0, 0)) :: .blk b3 (.cells #[.int .i64 o3.2.1] 26 (0, 0)) :: .blk b2 (.cells #[.int .i64 o3.2.2.1] 3 (0, 0)) :: .blk b1 (.cells #[.slice a6 (List.length o3.2.2.2.1) c6] 62 (0, 0)) :: lpiece l1 q1 [.ret] o3.2.2.2.2 :: dpiece q1.D :: .room a5 (List.length y1.1.2) c5 5 1 :: .room a6 (List.length o3.2.2.2.1) c6 54 2 :: own) w' ∧ RepS cU8 m6 a5 c5 y1.1.2 ∧ RepS cU8 m6 a1 c1 p0 ∧ RepS (cPair (cInt .i64) (cSl cU8)) m6 a6 c6 o3.2.2.2.1) ?_ ?_
        · clear hr st
          have hr := hrK
          clear hrK
          rintro _ w12 ⟨a6, c6, m6, rfl, hm, st, r5, r1, r6⟩
          refine WO_end rfl ?_
          refine X_then ?_
          refine W_cond o3.1 (by kernel_rfl) ?_ ?_
          · intro hc
            rw [if_pos hc] at hr
            refine W_ret ?_
            refine X_then_ret ?_
            refine X_block_ret ?_
            obtain rfl := Option.some.inj hr
            have ho := hBu2 _ rfl
            subst ho
            have hr := hrKu2
            dsimp only at hr
            refine X_then_ret ?_
            refine X_block_ret ?_
            obtain rfl := Option.some.inj hr
            refine X_ret [] [] rfl ResAll.nil ?_
            have st := st.tail
            have st := st.front6
            have st := st.tail
            have st := st.front6
            have st := st.front6
            have st := st.front6
            have st := st.front6
            have st := st.front6
            have st := st.front6
            have st := st.front6
            exact ⟨_, rfl, ⟨a6, c6, m6, rfl, hm, st, r1, r6⟩⟩
          · intro hc
            rw [if_neg (not_true hc)] at hr
            refine W_skip ?_
            refine X_then ?_
            refine W_region ?_
            refine WO_seg 2 [(3, .int .i64 y1.2.1)] (by kernel_rfl) (by kernel_rfl) ?_
            refine WO_end rfl ?_
            refine X_block ?_
            obtain rfl := Option.some.inj hr
            have hL := hSu2 _ rfl
            have st := st.tail
            have st := st.front6
            have st := st.tail
            have st := st.front6
            have st := st.front6
            have st := st.front6
            have st := st.front6
            have st := st.front6
            have st := st.front6
            have st := st.front6
            exact X_env _ (by kernel_rfl) (X_round k1 (Nat.lt_succ_self _) ⟨(y1.2.1, o3.2.1, o3.2.2.1, o3.2.2.2.1, o3.2.2.2.2), a6, c6, m6, hL, rfl, hm, st, r1, r6⟩)
        · intro K
          clear hrK
          refine WO_seg 1 [(18, .func (.yield l1) #[] #[])] (by kernel_rfl) (by kernel_rfl) ?_
          refine WO_one rfl (One_load_own (d := 19) (t := 54) (x := (.tmp 4)) (.agg #[.int .i64 y1.1.1, .slice a5 (List.length y1.1.2) c5]) (by kernel_rfl) rfl (show evL _ _ = some (.pointer (some ⟨b5, 0, none⟩)) from (by kernel_rfl)) st.head (by kernel_rfl) ?_)
          refine WO_seg 3 [(21, .agg #[.int .i64 y1.1.1, .slice a5 (List.length y1.1.2) c5, .int .i64 y1.2.1]), (22, .int .i64 y1.2.2)] (by kernel_rfl) (by kernel_rfl) ?_
          have st := st.front6
          by_cases hj1 : s1.2.2.2.2 = 0
          · rw [if_pos hj1] at hr
            rw [hj1] at st
            refine WO_one rfl (One_yield (d := 23) (l := l1) (x := (.tmp 18)) (xs := #[(.tmp 21), (.tmp 22)]) (ts := #[112, 26]) [.agg #[.int .i64 y1.1.1, .slice a5 (List.length y1.1.2) c5, .int .i64 y1.2.1], .int .i64 y1.2.2] (by kernel_rfl) rfl (show evL _ _ = some (.func (.yield l1) #[] #[]) from (by kernel_rfl)) (by kernel_rfl) htq1 hpq1 haq1 hbq1 rfl (by kernel_rfl) st ?_)
            intro R1 hR1
            refine W_seq ?_
            refine W_regionR rfl ?_
            refine WO_one rfl (One_alloc (d := 5) (e := 112) (.agg #[.int .i64 0, .slice none 0 0, .int .i64 0]) (by kernel_rfl) rfl (by kernel_rfl) st ?_)
            clear st
            intro b6 w13 st
            refine WO_one rfl (One_store (t := 112) (x := (.tmp 5)) (y := (.tmp 9)) (v := .agg #[.int .i64 y1.1.1, .slice a5 (List.length y1.1.2) c5, .int .i64 y1.2.1]) (c' := #[.int .i64 y1.1.1, .slice a5 (List.length y1.1.2) c5, .int .i64 y1.2.1]) (by kernel_rfl) (show evL _ _ = some (.pointer (some ⟨b6, 0, none⟩)) from (by kernel_rfl)) (show evL _ _ = some (.agg #[.int .i64 y1.1.1, .slice a5 (List.length y1.1.2) c5, .int .i64 y1.2.1]) from (by kernel_rfl)) st (by kernel_rfl) (by kernel_rfl) ?_)
            clear st
            intro w14 st
            refine WO_end rfl ?_
            refine X_then ?_
            refine W_regionR rfl ?_
            refine WO_seg 1 [(6, .int .i64 y1.2.2)] (by kernel_rfl) (by kernel_rfl) ?_
            refine WO_end rfl ?_
            have st := st.front1
            refine X_begin st ?_
            clear st
            intro w15 st
            refine W_block ?_
            refine W_seq ?_
            refine W_seq ?_
            refine W_regionR rfl ?_
            refine WO_seg 2 [(12, .bool (y1.2.2 != 0))] (by kernel_rfl) (by kernel_rfl) ?_
            refine WO_end rfl ?_
            refine X_then ?_
            refine W_cond (y1.2.2 != 0) (by kernel_rfl) ?_ ?_
            · intro hc
              rw [if_pos hc] at hr
              refine W_seq ?_
              refine W_drawR rfl [(6, fun w' => Inv m5 w' ∧ True), (4, fun w' => Inv m5 w' ∧ Piece.holds m5 w' (.blk b2 (.cells #[.int .i64 s1.2.2.1] 3 (0, 0))) ∧ True), (3, fun w' => Inv m5 w' ∧ Piece.holds m5 w' (.blk b1 (.cells #[.slice a4 (List.length s1.2.2.2.1) c4] 62 (0, 0))) ∧ True)] (by kernel_rfl) st ?_
              clear st
              intro w16 _ st
              have hmS := m5.le_refl
              refine ⟨⟨.inr ⟨Inv.anti st.inv hmS, trivial⟩, ⟨.inr ⟨Inv.anti st.inv hmS, Piece.holds_anti st.tail.tail.tail.tail.tail.tail.head hmS, trivial⟩, ⟨.inr ⟨Inv.anti st.inv hmS, Piece.holds_anti st.tail.tail.tail.tail.tail.tail.tail.head hmS, trivial⟩, trivial⟩⟩⟩, ?_⟩
              refine WA_load_own (t := 62) (x := (.tmp 2)) 0 13 (.slice a4 (List.length s1.2.2.2.1) c4) (by kernel_rfl) rfl (by kernel_rfl) (.tail _ (.tail _ (.head _))) (QP_then (QP_then (QP_block QP_round))) (fun _ h => h.2.1) (show evL _ _ = some (.pointer (some ⟨b1, 0, none⟩)) from (by kernel_rfl)) (by kernel_rfl) ?_
              refine WA_load_own (t := 3) (x := (.tmp 3)) 1 14 (.int .i64 s1.2.2.1) (by kernel_rfl) rfl (by kernel_rfl) (.tail _ (.head _)) (QP_then (QP_then (QP_block QP_round))) (fun _ h => h.2.1) (show evL _ _ = some (.pointer (some ⟨b2, 0, none⟩)) from (by kernel_rfl)) (by kernel_rfl) ?_
              refine WA_pure 2 15 (.int .i64 y1.2.2) (by kernel_rfl) rfl (by kernel_rfl) (.head _) (QP_then (QP_then (QP_block QP_round))) ?_
              have st := st.front7
              refine WA_one 3 (by kernel_rfl) (One_store (t := 62) (x := (.tmp 2)) (y := (.tmp 13)) (v := .slice a4 (List.length s1.2.2.2.1) c4) (c' := #[.slice a4 (List.length s1.2.2.2.1) c4]) (by kernel_rfl) (show evL _ _ = some (.pointer (some ⟨b1, 0, none⟩)) from (by kernel_rfl)) (show evL _ _ = some (.slice a4 (List.length s1.2.2.2.1) c4) from (by kernel_rfl)) st (by kernel_rfl) (by kernel_rfl) ?_)
              clear st
              intro w17 st
              refine ⟨⟨.inr ⟨Inv.anti st.inv hmS, trivial⟩, ⟨.inr ⟨Inv.anti st.inv hmS, Piece.holds_anti st.tail.tail.tail.tail.tail.tail.tail.head hmS, trivial⟩, ⟨.inl rfl, trivial⟩⟩⟩, ?_⟩
              have st := st.front7
              refine WA_one 4 (by kernel_rfl) (One_store (t := 3) (x := (.tmp 3)) (y := (.tmp 14)) (v := .int .i64 s1.2.2.1) (c' := #[.int .i64 s1.2.2.1]) (by kernel_rfl) (show evL _ _ = some (.pointer (some ⟨b2, 0, none⟩)) from (by kernel_rfl)) (show evL _ _ = some (.int .i64 s1.2.2.1) from (by kernel_rfl)) st (by kernel_rfl) (by kernel_rfl) ?_)
              clear st
              intro w18 st
              refine ⟨⟨.inr ⟨Inv.anti st.inv hmS, trivial⟩, ⟨.inl rfl, ⟨.inl rfl, trivial⟩⟩⟩, ?_⟩
              have st := st.front7
              refine WA_one 5 (by kernel_rfl) (One_store (t := 26) (x := (.tmp 4)) (y := (.tmp 15)) (v := .int .i64 y1.2.2) (c' := #[.int .i64 y1.2.2]) (by kernel_rfl) (show evL _ _ = some (.pointer (some ⟨b3, 0, none⟩)) from (by kernel_rfl)) (show evL _ _ = some (.int .i64 y1.2.2) from (by kernel_rfl)) st (by kernel_rfl) (by kernel_rfl) ?_)
              clear st
              intro w19 st
              refine ⟨⟨.inr ⟨Inv.anti st.inv hmS, trivial⟩, ⟨.inl rfl, ⟨.inl rfl, trivial⟩⟩⟩, ?_⟩
              refine WA_done (by kernel_rfl) ?_
              refine X_then ?_
              refine W_ret ?_
              refine X_then_ret ?_
              refine X_block_ret ?_
              have st := st.front3
              refine X_roundR [.ret] 0 rfl st ?_
              clear st
              intro w20 st
              refine hR1 false _ ?_
              refine WO_seg 5 [(28, .bool true)] (by kernel_rfl) (by kernel_rfl) ?_
              obtain rfl := Option.some.inj hr
              have st := st.front4
              have st := st.tail
              have st := st.front8
              have st := st.front6
              have st := st.front8
              have st := st.front3
              have st := st.front6
              have st := st.front6
              have st := st.front6
              have st := st.front8
              have st := st.front8
              exact WO_env _ (by kernel_rfl) (K _ _ ⟨a4, c4, m5, rfl, hm, st, r5, r1, r4⟩)
            · intro hc
              rw [if_neg (not_true hc)] at hr
              refine W_skip ?_
              refine X_then ?_
              refine W_drawR rfl [(9, fun w' => Inv m5 w' ∧ Piece.holds m5 w' (.blk b6 (.cells #[.int .i64 y1.1.1, .slice a5 (List.length y1.1.2) c5, .int .i64 y1.2.1] 112 (0, 0))) ∧ True), (7, fun w' => Inv m5 w' ∧ Piece.holds m5 w' (.blk b1 (.cells #[.slice a4 (List.length s1.2.2.2.1) c4] 62 (0, 0))) ∧ True)] (by kernel_rfl) st ?_
              clear st
              intro w21 _ st
              have hmS := m5.le_refl
              refine ⟨⟨.inr ⟨Inv.anti st.inv hmS, Piece.holds_anti st.tail.head hmS, trivial⟩, ⟨.inr ⟨Inv.anti st.inv hmS, Piece.holds_anti st.tail.tail.tail.tail.tail.tail.tail.head hmS, trivial⟩, trivial⟩⟩, ?_⟩
              refine WA_load_own (t := 62) (x := (.tmp 2)) 0 16 (.slice a4 (List.length s1.2.2.2.1) c4) (by kernel_rfl) rfl (by kernel_rfl) (.tail _ (.head _)) (QP_block QP_round) (fun _ h => h.2.1) (show evL _ _ = some (.pointer (some ⟨b1, 0, none⟩)) from (by kernel_rfl)) (by kernel_rfl) ?_
              refine WA_pure 1 17 (.pointer (some ⟨b6, 0, none⟩)) (by kernel_rfl) rfl (by kernel_rfl) (.head _) (QP_block QP_round) ?_
              refine WA_load_own (t := 54) (x := (.tmp 17)) 2 18 (.agg #[.int .i64 y1.1.1, .slice a5 (List.length y1.1.2) c5]) (by kernel_rfl) rfl (by kernel_rfl) (.head _) (QP_block QP_round) (fun _ h => h.2.1) (show evL _ _ = some (.pointer (some ⟨b6, 0, none⟩)) from (by kernel_rfl)) (by kernel_rfl) ?_
              refine WA_pure 5 21 (.pointer (some ⟨b6, 2, none⟩)) (by kernel_rfl) rfl (by kernel_rfl) (.head _) (QP_block QP_round) ?_
              refine WA_load_own (t := 3) (x := (.tmp 21)) 6 22 (.int .i64 y1.2.1) (by kernel_rfl) rfl (by kernel_rfl) (.head _) (QP_block QP_round) (fun _ h => h.2.1) (show evL _ _ = some (.pointer (some ⟨b6, 2, none⟩)) from (by kernel_rfl)) (by kernel_rfl) ?_
              refine WA_one 3 (by kernel_rfl) (One_buildSlice (d := 19) (t := 62) (e := 54) (len := 1) (parts := #[(0, (.tmp 18))]) (cPair (cInt .i64) (cSl cU8)) (xs := [(y1.1.1, y1.1.2)]) [.int .i64 y1.1.1, .slice a5 (List.length y1.1.2) c5] (by kernel_rfl) rfl (fun _ => buildCells_run (by kernel_rfl) _) rfl rfl st ⟨[.int .i64 y1.1.1, .slice a5 (List.length y1.1.2) c5], _, rfl, ⟨_, _, rfl, rfl, (cSl_mk r5)⟩, rfl⟩ ?_)
              clear st
              intro b7 m7 w22 hle3 st r7
              have hm := Mem.le_trans hm hle3
              have r4 := r4.mono hle3
              have r5 := r5.mono hle3
              have r1 := r1.mono hle3
              have hmS := Mem.le_trans hmS hle3
              refine ⟨⟨.inr ⟨Inv.anti st.inv hmS, Piece.holds_anti st.tail.tail.head hmS, trivial⟩, ⟨.inr ⟨Inv.anti st.inv hmS, Piece.holds_anti st.tail.tail.tail.tail.tail.tail.tail.tail.head hmS, trivial⟩, trivial⟩⟩, ?_⟩
              have st := st.front10
              replace hr := bindS hr
              obtain ⟨l2, hx2, hr⟩ := hr
              refine WA_one 4 (by kernel_rfl) (One_append (d := 20) (t := 62) (u := 62) (e := 54) (by_ := 32) (x := (.tmp 16)) (y := (.tmp 19)) (cPair (cInt .i64) (cSl cU8)) (by kernel_rfl) rfl (show evL _ _ = some (.slice a4 (List.length s1.2.2.2.1) c4) from (by kernel_rfl)) (show evL _ _ = some (.slice (some ⟨b7, 0, none⟩) (List.length ([(y1.1.1, y1.1.2)])) 1) from (by kernel_rfl)) st (by kernel_rfl) (.inl (by kernel_rfl)) r4 r7.src hx2 ?_)
              clear st
              intro a7 c7 m8 w23 hle4 st r8
              have hm := Mem.le_trans hm hle4
              have r4 := r4.mono hle4
              have r5 := r5.mono hle4
              have r7 := r7.mono hle4
              have r1 := r1.mono hle4
              have hmS := Mem.le_trans hmS hle4
              refine ⟨⟨.inr ⟨Inv.anti st.inv hmS, Piece.holds_anti st.tail.tail.tail.head hmS, trivial⟩, ⟨.inr ⟨Inv.anti st.inv hmS, Piece.holds_anti st.tail.tail.tail.tail.tail.tail.tail.tail.tail.head hmS, trivial⟩, trivial⟩⟩, ?_⟩
              have st := st.front9
              refine WA_one 7 (by kernel_rfl) (One_store (t := 62) (x := (.tmp 2)) (y := (.tmp 20)) (v := .slice a7 (List.length l2) c7) (c' := #[.slice a7 (List.length l2) c7]) (by kernel_rfl) (show evL _ _ = some (.pointer (some ⟨b1, 0, none⟩)) from (by kernel_rfl)) (show evL _ _ = some (.slice a7 (List.length l2) c7) from (by kernel_rfl)) st (by kernel_rfl) (by kernel_rfl) ?_)
              clear st
              intro w24 st
              refine ⟨⟨.inr ⟨Inv.anti st.inv hmS, Piece.holds_anti st.tail.tail.tail.tail.head hmS, trivial⟩, ⟨.inl rfl, trivial⟩⟩, ?_⟩
              have st := st.front9
              refine WA_one 8 (by kernel_rfl) (One_store (t := 3) (x := (.tmp 3)) (y := (.tmp 22)) (v := .int .i64 y1.2.1) (c' := #[.int .i64 y1.2.1]) (by kernel_rfl) (show evL _ _ = some (.pointer (some ⟨b2, 0, none⟩)) from (by kernel_rfl)) (show evL _ _ = some (.int .i64 y1.2.1) from (by kernel_rfl)) st (by kernel_rfl) (by kernel_rfl) ?_)
              clear st
              intro w25 st
              refine ⟨⟨.inr ⟨Inv.anti st.inv hmS, Piece.holds_anti st.tail.tail.tail.tail.tail.head hmS, trivial⟩, ⟨.inl rfl, trivial⟩⟩, ?_⟩
              refine WA_done (by kernel_rfl) ?_
              have st := st.front3
              have st := st.tail
              refine X_block ?_
              have st := st.front3
              refine X_roundN [.ret] st ?_
              clear st
              intro w26 st
              refine hR1 true _ ?_
              refine WO_seg 5 [(28, .bool (y1.2.2 != 0))] (by kernel_rfl) (by kernel_rfl) ?_
              obtain rfl := Option.some.inj hr
              have st := st.front4
              have st := st.tail
              have st := st.front3
              have st := st.front5
              have st := st.front8
              have st := st.front3
              have st := st.front5
              have st := st.front5
              have st := st.front8
              have st := st.front8
              have st := st.front8
              exact WO_env _ (by kernel_rfl) (K _ _ ⟨a7, c7, m8, rfl, hm, st, r5, r1, r8⟩)
          · rw [if_neg hj1] at hr
            cases hr
      · intro hc
        rw [if_neg (not_true hc)] at hr
        refine W_exit ?_
        refine X_then_exit ?_
        obtain rfl := Option.some.inj hr
        have ho := hBu2 _ rfl
        have st := st.front6
        have st := st.front6
        have st := st.front6
        have st := st.front6
        have st := st.front6
        have st := st.front6
        have st := st.front6
        refine X_then_exit ?_
        exact X_env _ (by kernel_rfl) (K0_u2 _ _ ⟨(s1.2.1, s1.2.2.1, s1.2.2.2.1, s1.2.2.2.2), a4, c4, m4, ho, rfl, hm, st, r1, r4⟩)

def testgateref03_Same (N : Nat) (p0 : List UInt8) (p1 : List UInt8) : Option (Bool) :=
  some ((strOf p0).toList == (strOf p1).toList)

set_option maxHeartbeats 4000000 in
set_option maxRecDepth 100000 in
theorem testgateref03_Same_ok {N : Nat} {m : Mem} {own : List Piece} {w : World} {p0 : List UInt8} {p1 : List UInt8} {a1 : Option Addr} {c1 : Nat} {a2 : Option Addr} {c2 : Nat} {r : Bool} (st : St m (own) w) (r1 : RepS cU8 m a1 c1 p0) (r2 : RepS cU8 m a2 c2 p1) (hr : testgateref03_Same N p0 p1 = some r) : Calls Go.Proofs.Try.prog 33 #[.slice a1 (List.length p0) c1, .slice a2 (List.length p1) c2] w fun e w' => ∃ (m' : Mem), e = .returned (.bool r) ∧ m.le m' ∧ St m' (own) w' := by
  unfold testgateref03_Same at hr
  have hm := m.le_refl
  refine W_calls Go.Proofs.Try.func33 rfl Go.Proofs.Try.ntmps33 [(0, .slice a1 (List.length p0) c1), (1, .slice a2 (List.length p1) c2)] (by kernel_rfl) rfl ?_
  refine W_seq ?_
  refine W_region ?_
  refine WO_seg 1 [] (by kernel_rfl) (by kernel_rfl) ?_
  refine WO_end rfl ?_
  refine X_then ?_
  refine W_seq ?_
  refine W_region ?_
  refine WO_seg 1 [(5, .slice a1 (List.length p0) c1)] (by kernel_rfl) (by kernel_rfl) ?_
  refine WO_one rfl (One_bytesStr (d := 6) (t1 := 50) (t2 := 9) (e := 5) (x := (.tmp 5)) (by kernel_rfl) rfl (show evL _ _ = some (.slice a1 (List.length p0) c1) from (by kernel_rfl)) (by kernel_rfl) (by kernel_rfl) st r1 ?_)
  refine WO_seg 1 [(7, .slice a2 (List.length p1) c2)] (by kernel_rfl) (by kernel_rfl) ?_
  refine WO_one rfl (One_bytesStr (d := 8) (t1 := 50) (t2 := 9) (e := 5) (x := (.tmp 7)) (by kernel_rfl) rfl (show evL _ _ = some (.slice a2 (List.length p1) c2) from (by kernel_rfl)) (by kernel_rfl) (by kernel_rfl) st r2 ?_)
  refine WO_seg 2 [(4, .bool ((strOf p0).toList == (strOf p1).toList))] (by kernel_rfl) (by kernel_rfl) ?_
  refine WO_end rfl ?_
  refine X_then ?_
  refine W_ret ?_
  obtain rfl := Option.some.inj hr
  refine X_ret [.tmp 4] [.bool ((strOf p0).toList == (strOf p1).toList)] rfl (ResAll.cons (ResAt.tmp (by kernel_rfl)) ResAll.nil) ?_
  exact ⟨m, rfl, hm, st⟩

def testgatelaw03_awake (N : Nat) : Option (Bool) :=
  (wire_PutUint N ([] : List (UInt8)) 300).bind fun y1 => (wire_Uint N y1 0).bind fun y2 => (wire_Frame N (9, [(1 : UInt8), (2 : UInt8)])).bind fun y3 => (wire_Next N y3.1 0).bind fun y4 => (if (y2.2.2 == 0) = true then (if (y3.2 == 0) = true then (if (y4.2.2 == 0) = true then (if (y2.1 == 300) = true then (if (y2.2.1 == 2) = true then (if ((List.length y1 : Int) == 2) = true then ((idx y1 0).bind fun x1 => if ((x1.toNat : Int) == 172) = true then (if (y4.2.1 == (List.length y3.1 : Int)) = true then (if (y4.1.1 == 9) = true then (if ((List.length y4.1.2 : Int) == 2) = true then ((wire_Checksum N ([] : List (UInt8))).bind fun y5 => some (y5 == 1)) else (some false)) else (some false)) else (some false)) else (some false)) else (some false)) else (some false)) else (some false)) else (some false)) else (some false)) else (some false) : Option (Bool)).bind fun o1 => some o1

set_option maxHeartbeats 4000000 in
set_option maxRecDepth 100000 in
theorem testgatelaw03_awake_ok {N : Nat} {m : Mem} {own : List Piece} {w : World} {r : Bool} (st : St m (own) w) (hr : testgatelaw03_awake N = some r) : Calls Go.Proofs.Try.prog 41 #[] w fun e w' => ∃ (m' : Mem), e = .returned (.bool r) ∧ m.le m' ∧ St m' (own) w' := by
  unfold testgatelaw03_awake at hr
  have hm := m.le_refl
  refine W_calls Go.Proofs.Try.func41 rfl Go.Proofs.Try.ntmps41 [] (by kernel_rfl) rfl ?_
  refine W_seq ?_
  refine W_region ?_
  refine WO_seg 1 [] (by kernel_rfl) (by kernel_rfl) ?_
  refine WO_end rfl ?_
  refine X_then ?_
  refine W_seq ?_
  refine W_region ?_
  replace hr := bindS hr
  obtain ⟨y1, hx1, hr⟩ := hr
  refine WO_one rfl (One_fn 10 45 #[.slice none (List.length ([] : List (UInt8))) 0, .int .u64 300] (by kernel_rfl) rfl ?_)
  refine (wire_PutUint_ok st (RepS.nil _ _) hx1).mono ?_
  clear st
  rintro _ w1 ⟨a1, c1, m1, rfl, hle1, st, r1⟩
  refine ⟨_, rfl, ?_⟩
  have hm := Mem.le_trans hm hle1
  refine WO_seg 1 [(1, .slice a1 (List.length y1) c1)] (by kernel_rfl) (by kernel_rfl) ?_
  refine WO_end rfl ?_
  refine X_then ?_
  refine W_seq ?_
  refine W_region ?_
  refine WO_seg 1 [(12, .slice a1 (List.length y1) c1)] (by kernel_rfl) (by kernel_rfl) ?_
  replace hr := bindS hr
  obtain ⟨y2, hx2, hr⟩ := hr
  refine WO_one rfl (One_fn 13 49 #[.slice a1 (List.length y1) c1, .int .i64 0] (by kernel_rfl) rfl ?_)
  refine (wire_Uint_ok st r1 hx2).mono ?_
  clear st
  rintro _ w2 ⟨m2, rfl, hle2, st⟩
  refine ⟨_, rfl, ?_⟩
  have hm := Mem.le_trans hm hle2
  have r1 := r1.mono hle2
  refine WO_seg 7 [(2, .int .u64 y2.1), (3, .int .i64 y2.2.1), (4, .int .i64 y2.2.2)] (by kernel_rfl) (by kernel_rfl) ?_
  refine WO_end rfl ?_
  refine X_then ?_
  refine W_seq ?_
  refine W_region ?_
  refine WO_one rfl (One_buildSlice (d := 18) (t := 50) (e := 5) (len := 2) (parts := #[(0, (.const (.int .u8 1))), (1, (.const (.int .u8 2)))]) cU8 (xs := [(1 : UInt8), (2 : UInt8)]) [.int .u8 1, .int .u8 2] (by kernel_rfl) rfl (fun _ => buildCells_run (by kernel_rfl) _) rfl rfl st ⟨[.int .u8 1], _, rfl, rfl, ⟨[.int .u8 2], _, rfl, rfl, rfl⟩⟩ ?_)
  clear st
  intro b1 m3 w3 hle3 st r2
  have hm := Mem.le_trans hm hle3
  have r1 := r1.mono hle3
  refine WO_seg 1 [(19, .agg #[.int .i64 9, .slice (some ⟨b1, 0, none⟩) (List.length ([(1 : UInt8), (2 : UInt8)])) 2])] (by kernel_rfl) (by kernel_rfl) ?_
  replace hr := bindS hr
  obtain ⟨y3, hx3, hr⟩ := hr
  refine WO_one rfl (One_fn 20 31 #[.agg #[.int .i64 9, .slice (some ⟨b1, 0, none⟩) (List.length ([(1 : UInt8), (2 : UInt8)])) 2]] (by kernel_rfl) rfl ?_)
  refine (wire_Frame_ok st r2 hx3).mono ?_
  clear st
  rintro _ w4 ⟨a2, c2, m4, rfl, hle4, st, r3⟩
  refine ⟨_, rfl, ?_⟩
  have hm := Mem.le_trans hm hle4
  have r1 := r1.mono hle4
  have r2 := r2.mono hle4
  refine WO_seg 5 [(5, .slice a2 (List.length y3.1) c2), (6, .int .i64 y3.2)] (by kernel_rfl) (by kernel_rfl) ?_
  refine WO_end rfl ?_
  have st := st.front1
  have st := st.tail
  refine X_then ?_
  refine W_seq ?_
  refine W_region ?_
  refine WO_seg 1 [(24, .slice a2 (List.length y3.1) c2)] (by kernel_rfl) (by kernel_rfl) ?_
  replace hr := bindS hr
  obtain ⟨y4, hx4, hr⟩ := hr
  refine WO_one rfl (One_fn 25 36 #[.slice a2 (List.length y3.1) c2, .int .i64 0] (by kernel_rfl) rfl ?_)
  refine (wire_Next_ok st r3 hx4).mono ?_
  clear st
  rintro _ w5 ⟨a3, c3, m5, rfl, hle5, st, r4⟩
  refine ⟨_, rfl, ?_⟩
  have hm := Mem.le_trans hm hle5
  have r1 := r1.mono hle5
  have r3 := r3.mono hle5
  refine WO_seg 4 [(26, .agg #[.int .i64 y4.1.1, .slice a3 (List.length y4.1.2) c3]), (27, .int .i64 y4.2.1), (28, .int .i64 y4.2.2)] (by kernel_rfl) (by kernel_rfl) ?_
  refine WO_one rfl (One_alloc (d := 7) (e := 54) (.agg #[.int .i64 0, .slice none 0 0]) (by kernel_rfl) rfl (by kernel_rfl) st ?_)
  clear st
  intro b2 w6 st
  refine WO_one rfl (One_store (t := 54) (x := (.tmp 7)) (y := (.tmp 26)) (v := .agg #[.int .i64 y4.1.1, .slice a3 (List.length y4.1.2) c3]) (c' := #[.int .i64 y4.1.1, .slice a3 (List.length y4.1.2) c3]) (by kernel_rfl) (show evL _ _ = some (.pointer (some ⟨b2, 0, none⟩)) from (by kernel_rfl)) (show evL _ _ = some (.agg #[.int .i64 y4.1.1, .slice a3 (List.length y4.1.2) c3]) from (by kernel_rfl)) st (by kernel_rfl) (by kernel_rfl) ?_)
  clear st
  intro w7 st
  refine WO_seg 2 [(8, .int .i64 y4.2.1), (9, .int .i64 y4.2.2)] (by kernel_rfl) (by kernel_rfl) ?_
  refine WO_end rfl ?_
  refine X_then ?_
  refine W_seq ?_
  refine W_region ?_
  replace hr := bindS hr
  obtain ⟨o1, hr, hrK⟩ := hr
  refine WO_cut (j := 51) (fun L' w' => ∃ (m6 : Mem), L' = [(0, .bool o1)] ∧ m.le m6 ∧ St m6 (.blk b2 (.cells #[.int .i64 y4.1.1, .slice a3 (List.length y4.1.2) c3] 54 (0, 0)) :: .room a3 (List.length y4.1.2) c3 5 1 :: .room a2 (List.length y3.1) c2 5 1 :: .room a1 (List.length y1) c1 5 1 :: own) w' ∧ RepS cU8 m6 a3 c3 y4.1.2) ?_ ?_
  · clear hr st
    have hr := hrK
    clear hrK
    rintro _ w8 ⟨m6, rfl, hm, st, r4⟩
    refine WO_end rfl ?_
    refine X_then ?_
    refine W_ret ?_
    obtain rfl := Option.some.inj hr
    refine X_ret [.tmp 0] [.bool o1] rfl (ResAll.cons (ResAt.tmp (by kernel_rfl)) ResAll.nil) ?_
    have st := st.tail
    have st := st.tail
    have st := st.tail
    have st := st.tail
    exact ⟨m6, rfl, hm, st⟩
  · intro K
    clear hrK
    refine WO_seg 3 [(31, .bool (y2.2.2 == 0))] (by kernel_rfl) (by kernel_rfl) ?_
    rcases bcases (y2.2.2 == 0) with hc | hc
    · rw [if_pos hc] at hr
      refine WO_fact (t := 31) (b := true) (y2.2.2 == 0) (by kernel_rfl) hc ?_
      refine WO_seg 4 [(35, .bool (y3.2 == 0))] (by kernel_rfl) (by kernel_rfl) ?_
      rcases bcases (y3.2 == 0) with hc | hc
      · rw [if_pos hc] at hr
        refine WO_fact (t := 35) (b := true) (y3.2 == 0) (by kernel_rfl) hc ?_
        refine WO_seg 4 [(39, .bool (y4.2.2 == 0))] (by kernel_rfl) (by kernel_rfl) ?_
        rcases bcases (y4.2.2 == 0) with hc | hc
        · rw [if_pos hc] at hr
          refine WO_fact (t := 39) (b := true) (y4.2.2 == 0) (by kernel_rfl) hc ?_
          refine WO_seg 4 [(43, .bool (y2.1 == 300))] (by kernel_rfl) (by kernel_rfl) ?_
          rcases bcases (y2.1 == 300) with hc | hc
          · rw [if_pos hc] at hr
            refine WO_fact (t := 43) (b := true) (y2.1 == 300) (by kernel_rfl) hc ?_
            refine WO_seg 4 [(47, .bool (y2.2.1 == 2))] (by kernel_rfl) (by kernel_rfl) ?_
            rcases bcases (y2.2.1 == 2) with hc | hc
            · rw [if_pos hc] at hr
              refine WO_fact (t := 47) (b := true) (y2.2.1 == 2) (by kernel_rfl) hc ?_
              refine WO_seg 5 [(52, .bool ((List.length y1 : Int) == 2))] (by kernel_rfl) (by kernel_rfl) ?_
              rcases bcases ((List.length y1 : Int) == 2) with hc | hc
              · rw [if_pos hc] at hr
                refine WO_fact (t := 52) (b := true) ((List.length y1 : Int) == 2) (by kernel_rfl) hc ?_
                refine WO_seg 1 [(53, .slice a1 (List.length y1) c1)] (by kernel_rfl) (by kernel_rfl) ?_
                replace hr := bindS hr
                obtain ⟨x1, hx5, hr⟩ := hr
                refine WO_one rfl (One_index (d := 54) (t := 50) (e := 5) (x := (.tmp 53)) (y := (.const (.int .i64 0))) cU8 (by kernel_rfl) rfl (show evL _ _ = some (.slice a1 (List.length y1) c1) from (by kernel_rfl)) (show evL _ _ = some (.int .i64 0) from (by kernel_rfl)) (by kernel_rfl) r1 hx5 ?_)
                rintro b3 f1 cs1 rfl hq1
                refine WO_one rfl (One_load_row (d := 55) (t := 5) (x := (.tmp 54)) (.int .u8 (x1.toNat : Int)) (by kernel_rfl) rfl (show evL _ _ = some (.pointer (some ⟨b3, f1, none⟩)) from (by kernel_rfl)) st hq1 (by kernel_rfl) ?_)
                refine WO_seg 3 [(58, .bool ((x1.toNat : Int) == 172))] (by kernel_rfl) (by kernel_rfl) ?_
                rcases bcases ((x1.toNat : Int) == 172) with hc | hc
                · rw [if_pos hc] at hr
                  refine WO_fact (t := 58) (b := true) ((x1.toNat : Int) == 172) (by kernel_rfl) hc ?_
                  refine WO_seg 6 [(64, .bool (y4.2.1 == (List.length y3.1 : Int)))] (by kernel_rfl) (by kernel_rfl) ?_
                  rcases bcases (y4.2.1 == (List.length y3.1 : Int)) with hc | hc
                  · rw [if_pos hc] at hr
                    refine WO_fact (t := 64) (b := true) (y4.2.1 == (List.length y3.1 : Int)) (by kernel_rfl) hc ?_
                    refine WO_seg 1 [(65, .pointer (some ⟨b2, 0, none⟩))] (by kernel_rfl) (by kernel_rfl) ?_
                    refine WO_one rfl (One_load_own (d := 66) (t := 3) (x := (.tmp 65)) (.int .i64 y4.1.1) (by kernel_rfl) rfl (show evL _ _ = some (.pointer (some ⟨b2, 0, none⟩)) from (by kernel_rfl)) st.head (by kernel_rfl) ?_)
                    refine WO_seg 3 [(69, .bool (y4.1.1 == 9))] (by kernel_rfl) (by kernel_rfl) ?_
                    rcases bcases (y4.1.1 == 9) with hc | hc
                    · rw [if_pos hc] at hr
                      refine WO_fact (t := 69) (b := true) (y4.1.1 == 9) (by kernel_rfl) hc ?_
                      refine WO_seg 1 [(70, .pointer (some ⟨b2, 1, none⟩))] (by kernel_rfl) (by kernel_rfl) ?_
                      refine WO_one rfl (One_load_own (d := 71) (t := 50) (x := (.tmp 70)) (.slice a3 (List.length y4.1.2) c3) (by kernel_rfl) rfl (show evL _ _ = some (.pointer (some ⟨b2, 1, none⟩)) from (by kernel_rfl)) st.head (by kernel_rfl) ?_)
                      refine WO_seg 4 [(75, .bool ((List.length y4.1.2 : Int) == 2))] (by kernel_rfl) (by kernel_rfl) ?_
                      rcases bcases ((List.length y4.1.2 : Int) == 2) with hc | hc
                      · rw [if_pos hc] at hr
                        refine WO_fact (t := 75) (b := true) ((List.length y4.1.2 : Int) == 2) (by kernel_rfl) hc ?_
                        replace hr := bindS hr
                        obtain ⟨y5, hx6, hr⟩ := hr
                        refine WO_one rfl (One_fn 76 34 #[.slice none (List.length ([] : List (UInt8))) 0] (by kernel_rfl) rfl ?_)
                        refine (wire_Checksum_ok st (RepS.nil _ _) hx6).mono ?_
                        clear st
                        rintro _ w9 ⟨m7, rfl, hle6, st⟩
                        refine ⟨_, rfl, ?_⟩
                        have hm := Mem.le_trans hm hle6
                        have r1 := r1.mono hle6
                        have r3 := r3.mono hle6
                        have hq1 := hq1.mono hle6
                        have r4 := r4.mono hle6
                        refine WO_seg 3 [(0, .bool (y5 == 1))] (by kernel_rfl) (by kernel_rfl) ?_
                        obtain rfl := Option.some.inj hr
                        have st := st.front3
                        have st := st.front3
                        have st := st.front3
                        have st := st.front3
                        exact WO_env _ (by kernel_rfl) (K _ _ ⟨m7, rfl, hm, st, r4⟩)
                      · rw [if_neg (not_true hc)] at hr
                        refine WO_fact (t := 75) (b := false) ((List.length y4.1.2 : Int) == 2) (by kernel_rfl) hc ?_
                        refine WO_seg 4 [(0, .bool false)] (by kernel_rfl) (by kernel_rfl) ?_
                        obtain rfl := Option.some.inj hr
                        have st := st.front3
                        have st := st.front3
                        have st := st.front3
                        have st := st.front3
                        exact WO_env _ (by kernel_rfl) (K _ _ ⟨m5, rfl, hm, st, r4⟩)
                    · rw [if_neg (not_true hc)] at hr
                      refine WO_fact (t := 69) (b := false) (y4.1.1 == 9) (by kernel_rfl) hc ?_
                      refine WO_seg 10 [(0, .bool false)] (by kernel_rfl) (by kernel_rfl) ?_
                      obtain rfl := Option.some.inj hr
                      have st := st.front3
                      have st := st.front3
                      have st := st.front3
                      have st := st.front3
                      exact WO_env _ (by kernel_rfl) (K _ _ ⟨m5, rfl, hm, st, r4⟩)
                  · rw [if_neg (not_true hc)] at hr
                    refine WO_fact (t := 64) (b := false) (y4.2.1 == (List.length y3.1 : Int)) (by kernel_rfl) hc ?_
                    refine WO_seg 15 [(0, .bool false)] (by kernel_rfl) (by kernel_rfl) ?_
                    obtain rfl := Option.some.inj hr
                    have st := st.front3
                    have st := st.front3
                    have st := st.front3
                    have st := st.front3
                    exact WO_env _ (by kernel_rfl) (K _ _ ⟨m5, rfl, hm, st, r4⟩)
                · rw [if_neg (not_true hc)] at hr
                  refine WO_fact (t := 58) (b := false) ((x1.toNat : Int) == 172) (by kernel_rfl) hc ?_
                  refine WO_seg 21 [(0, .bool false)] (by kernel_rfl) (by kernel_rfl) ?_
                  obtain rfl := Option.some.inj hr
                  have st := st.front3
                  have st := st.front3
                  have st := st.front3
                  have st := st.front3
                  exact WO_env _ (by kernel_rfl) (K _ _ ⟨m5, rfl, hm, st, r4⟩)
              · rw [if_neg (not_true hc)] at hr
                refine WO_fact (t := 52) (b := false) ((List.length y1 : Int) == 2) (by kernel_rfl) hc ?_
                refine WO_seg 27 [(0, .bool false)] (by kernel_rfl) (by kernel_rfl) ?_
                obtain rfl := Option.some.inj hr
                have st := st.front3
                have st := st.front3
                have st := st.front3
                have st := st.front3
                exact WO_env _ (by kernel_rfl) (K _ _ ⟨m5, rfl, hm, st, r4⟩)
            · rw [if_neg (not_true hc)] at hr
              refine WO_fact (t := 47) (b := false) (y2.2.1 == 2) (by kernel_rfl) hc ?_
              refine WO_seg 32 [(0, .bool false)] (by kernel_rfl) (by kernel_rfl) ?_
              obtain rfl := Option.some.inj hr
              have st := st.front3
              have st := st.front3
              have st := st.front3
              have st := st.front3
              exact WO_env _ (by kernel_rfl) (K _ _ ⟨m5, rfl, hm, st, r4⟩)
          · rw [if_neg (not_true hc)] at hr
            refine WO_fact (t := 43) (b := false) (y2.1 == 300) (by kernel_rfl) hc ?_
            refine WO_seg 36 [(0, .bool false)] (by kernel_rfl) (by kernel_rfl) ?_
            obtain rfl := Option.some.inj hr
            have st := st.front3
            have st := st.front3
            have st := st.front3
            have st := st.front3
            exact WO_env _ (by kernel_rfl) (K _ _ ⟨m5, rfl, hm, st, r4⟩)
        · rw [if_neg (not_true hc)] at hr
          refine WO_fact (t := 39) (b := false) (y4.2.2 == 0) (by kernel_rfl) hc ?_
          refine WO_seg 40 [(0, .bool false)] (by kernel_rfl) (by kernel_rfl) ?_
          obtain rfl := Option.some.inj hr
          have st := st.front3
          have st := st.front3
          have st := st.front3
          have st := st.front3
          exact WO_env _ (by kernel_rfl) (K _ _ ⟨m5, rfl, hm, st, r4⟩)
      · rw [if_neg (not_true hc)] at hr
        refine WO_fact (t := 35) (b := false) (y3.2 == 0) (by kernel_rfl) hc ?_
        refine WO_seg 44 [(0, .bool false)] (by kernel_rfl) (by kernel_rfl) ?_
        obtain rfl := Option.some.inj hr
        have st := st.front3
        have st := st.front3
        have st := st.front3
        have st := st.front3
        exact WO_env _ (by kernel_rfl) (K _ _ ⟨m5, rfl, hm, st, r4⟩)
    · rw [if_neg (not_true hc)] at hr
      refine WO_fact (t := 31) (b := false) (y2.2.2 == 0) (by kernel_rfl) hc ?_
      refine WO_seg 48 [(0, .bool false)] (by kernel_rfl) (by kernel_rfl) ?_
      obtain rfl := Option.some.inj hr
      have st := st.front3
      have st := st.front3
      have st := st.front3
      have st := st.front3
      exact WO_env _ (by kernel_rfl) (K _ _ ⟨m5, rfl, hm, st, r4⟩)

def testgatelaw03_WireDamage (N : Nat) (p0 : List UInt8) (p1 : Int) (p2 : Int) (p3 : Int) : Option (Bool) :=
  (if (decide ((List.length p0 : Int) > 300)) = true then ((subS p0 0 300).bind fun l1 => some l1) else (some p0) : Option (List (UInt8))).bind fun o1 => (wire_Frame N (IntKind.wrap .i64 (1 + (IntKind.wrap .i64 (Int.tmod p1 255))), o1)).bind fun y1 => (if (y1.2 != 0) = true then (some true) else (some (decide ((List.length y1.1 : Int) < 7))) : Option (Bool)).bind fun o2 => if o2 = true then (some false) else ((testgatemake_Fold N p2 (List.length y1.1 : Int)).bind fun y2 => (subS y1.1 0 y2).bind fun l2 => (wire_Next N l2 0).bind fun y3 => if (y3.2.2 == 0) = true then (some false) else ((appendS 1 ([] : List (UInt8)) y1.1).bind fun l3 => (appendS 1 l3 y1.1).bind fun l4 => (wire_Frames N l4).bind fun y4 => (if (y4.2.2 != 0) = true then (some true) else (if (y4.2.1 != (IntKind.wrap .i64 (2 * (List.length y1.1 : Int)))) = true then (some true) else (if ((List.length y4.1 : Int) != 2) = true then (some true) else ((idx y4.1 1).bind fun x1 => (testgateref03_Same N x1.2 o1).bind fun y5 => some (!y5)))) : Option (Bool)).bind fun o3 => if o3 = true then (some false) else ((appA 1 y1.1).bind fun l5 => (idx l5 y2).bind fun x2 => (idx l5 y2).bind fun x3 => if (p3 == 0) = true then ((testgatelaw03_awake N).bind fun y6 => some y6) else ((wire_Next N (List.set l5 (Int.toNat y2) (toU8 (iXor .u8 (x2.toNat : Int) p3))) 0).bind fun y7 => (if (y7.2.2 != 0) = true then ((testgatelaw03_awake N).bind fun y8 => some y8) else (if (y7.2.1 != (List.length y1.1 : Int)) = true then ((testgatelaw03_awake N).bind fun y9 => some y9) else (some false)) : Option (Bool)).bind fun o4 => some o4))))

set_option maxHeartbeats 4000000 in
set_option maxRecDepth 100000 in
theorem testgatelaw03_WireDamage_ok {N : Nat} {m : Mem} {own : List Piece} {w : World} {p0 : List UInt8} {p1 : Int} {p2 : Int} {p3 : Int} {a1 : Option Addr} {c1 : Nat} {r : Bool} (st : St m (own) w) (r1 : RepS cU8 m a1 c1 p0) (hr : testgatelaw03_WireDamage N p0 p1 p2 p3 = some r) : Calls Go.Proofs.Try.prog 6 #[.slice a1 (List.length p0) c1, .int .u8 p1, .int .i64 p2, .int .u8 p3] w fun e w' => ∃ (m' : Mem), e = .returned (.bool r) ∧ m.le m' ∧ St m' (own) w' := by
  unfold testgatelaw03_WireDamage at hr
  have hm := m.le_refl
  refine W_calls Go.Proofs.Try.func6 rfl Go.Proofs.Try.ntmps6 [(0, .slice a1 (List.length p0) c1), (1, .int .u8 p1), (2, .int .i64 p2), (3, .int .u8 p3)] (by kernel_rfl) rfl ?_
  refine W_seq ?_
  refine W_region ?_
  refine WO_seg 1 [] (by kernel_rfl) (by kernel_rfl) ?_
  refine WO_end rfl ?_
  refine X_then ?_
  refine W_seq ?_
  refine W_seq ?_
  refine W_region ?_
  refine WO_seg 3 [(21, .bool (decide ((List.length p0 : Int) > 300)))] (by kernel_rfl) (by kernel_rfl) ?_
  refine WO_end rfl ?_
  refine X_then ?_
  replace hr := bindS hr
  obtain ⟨o1, hr, hrKu1⟩ := hr
  refine W_cut .normal (fun L' w' => ∃ (a2 : Option Addr) (c2 : Nat) (m1 : Mem), L' = [(0, .slice a2 (List.length o1) c2), (1, .int .u8 p1), (2, .int .i64 p2), (3, .int .u8 p3)] ∧ m.le m1 ∧ St m1 (own) w' ∧ RepS cU8 m1 a2 c2 o1) ?_ ?_
  · clear hr st
    have hr := hrKu1
    clear hrKu1
    rintro _ w1 ⟨a2, c2, m1, rfl, hm, st, r2⟩
    refine X_then ?_
    refine W_seq ?_
    refine W_region ?_
    refine WO_seg 6 [(30, .agg #[.int .i64 (IntKind.wrap .i64 (1 + (IntKind.wrap .i64 (Int.tmod p1 255)))), .slice a2 (List.length o1) c2])] (by kernel_rfl) (by kernel_rfl) ?_
    replace hr := bindS hr
    obtain ⟨y1, hx2, hr⟩ := hr
    refine WO_one rfl (One_fn 31 31 #[.agg #[.int .i64 (IntKind.wrap .i64 (1 + (IntKind.wrap .i64 (Int.tmod p1 255)))), .slice a2 (List.length o1) c2]] (by kernel_rfl) rfl ?_)
    refine (wire_Frame_ok st r2 hx2).mono ?_
    clear st
    rintro _ w2 ⟨a4, c4, m2, rfl, hle1, st, r4⟩
    refine ⟨_, rfl, ?_⟩
    have hm := Mem.le_trans hm hle1
    have r2 := r2.mono hle1
    refine WO_seg 5 [(9, .slice a4 (List.length y1.1) c4), (10, .int .i64 y1.2)] (by kernel_rfl) (by kernel_rfl) ?_
    refine WO_end rfl ?_
    refine X_then ?_
    refine W_seq ?_
    refine W_seq ?_
    refine W_region ?_
    replace hr := bindS hr
    obtain ⟨o2, hr, hrK⟩ := hr
    refine WO_cut (j := 7) (fun L' w' => ∃ (m3 : Mem), L' = [(0, .slice a2 (List.length o1) c2), (2, .int .i64 p2), (3, .int .u8 p3), (9, .slice a4 (List.length y1.1) c4), (40, .bool o2)] ∧ m.le m3 ∧ St m3 (.room a4 (List.length y1.1) c4 5 1 :: own) w' ∧ RepS cU8 m3 a2 c2 o1 ∧ RepS cU8 m3 a4 c4 y1.1) ?_ ?_
    · clear hr st
      have hr := hrK
      clear hrK
      rintro _ w3 ⟨m3, rfl, hm, st, r2, r4⟩
      refine WO_end rfl ?_
      refine X_then ?_
      refine W_cond o2 (by kernel_rfl) ?_ ?_
      · intro hc
        rw [if_pos hc] at hr
        refine W_seq ?_
        refine W_region ?_
        refine WO_seg 1 [(8, .bool false)] (by kernel_rfl) (by kernel_rfl) ?_
        refine WO_end rfl ?_
        have st := st.tail
        refine X_then ?_
        refine W_ret ?_
        refine X_then_ret ?_
        obtain rfl := Option.some.inj hr
        refine X_ret [.tmp 8] [.bool false] rfl (ResAll.cons (ResAt.tmp (by kernel_rfl)) ResAll.nil) ?_
        exact ⟨m3, rfl, hm, st⟩
      · intro hc
        rw [if_neg (not_true hc)] at hr
        refine W_skip ?_
        refine X_then ?_
        refine W_seq ?_
        refine W_region ?_
        refine WO_seg 3 [(41, .int .i64 p2), (43, .int .i64 (List.length y1.1 : Int))] (by kernel_rfl) (by kernel_rfl) ?_
        replace hr := bindS hr
        obtain ⟨y2, hx3, hr⟩ := hr
        refine WO_one rfl (One_fn 44 42 #[.int .i64 p2, .int .i64 (List.length y1.1 : Int)] (by kernel_rfl) rfl ?_)
        refine (testgatemake_Fold_ok st hx3).mono ?_
        clear st
        rintro _ w4 ⟨m4, rfl, hle2, st⟩
        refine ⟨_, rfl, ?_⟩
        have hm := Mem.le_trans hm hle2
        have r2 := r2.mono hle2
        have r4 := r4.mono hle2
        refine WO_seg 1 [(2, .int .i64 y2)] (by kernel_rfl) (by kernel_rfl) ?_
        refine WO_end rfl ?_
        refine X_then ?_
        refine W_seq ?_
        refine W_seq ?_
        refine W_region ?_
        refine WO_seg 2 [(46, .slice a4 (List.length y1.1) c4), (47, .int .i64 y2)] (by kernel_rfl) (by kernel_rfl) ?_
        replace hr := bindS hr
        obtain ⟨l2, hx4, hr⟩ := hr
        refine WO_one rfl (One_slice (d := 48) (t := 50) (e := 5) (x := (.tmp 46)) (lo := none) (hi := (some (.tmp 47))) cU8 (by kernel_rfl) rfl (show evL _ _ = some (.slice a4 (List.length y1.1) c4) from (by kernel_rfl)) (by kernel_rfl) r4 (.inl ⟨rfl, rfl⟩) (.inr ⟨_, _, rfl, (show evL _ _ = some (.int .i64 y2) from (by kernel_rfl))⟩) hx4 ?_)
        intro a5 c5 r5
        replace hr := bindS hr
        obtain ⟨y3, hx5, hr⟩ := hr
        refine WO_one rfl (One_fn 49 36 #[.slice a5 (List.length l2) c5, .int .i64 0] (by kernel_rfl) rfl ?_)
        refine (wire_Next_ok st r5 hx5).mono ?_
        clear st
        rintro _ w5 ⟨a6, c6, m5, rfl, hle3, st, r6⟩
        refine ⟨_, rfl, ?_⟩
        have hm := Mem.le_trans hm hle3
        have r2 := r2.mono hle3
        have r4 := r4.mono hle3
        have r5 := r5.mono hle3
        refine WO_seg 4 [(50, .agg #[.int .i64 y3.1.1, .slice a6 (List.length y3.1.2) c6]), (51, .int .i64 y3.2.1), (52, .int .i64 y3.2.2)] (by kernel_rfl) (by kernel_rfl) ?_
        refine WO_one rfl (One_alloc (d := 11) (e := 54) (.agg #[.int .i64 0, .slice none 0 0]) (by kernel_rfl) rfl (by kernel_rfl) st ?_)
        clear st
        intro b1 w6 st
        refine WO_one rfl (One_store (t := 54) (x := (.tmp 11)) (y := (.tmp 50)) (v := .agg #[.int .i64 y3.1.1, .slice a6 (List.length y3.1.2) c6]) (c' := #[.int .i64 y3.1.1, .slice a6 (List.length y3.1.2) c6]) (by kernel_rfl) (show evL _ _ = some (.pointer (some ⟨b1, 0, none⟩)) from (by kernel_rfl)) (show evL _ _ = some (.agg #[.int .i64 y3.1.1, .slice a6 (List.length y3.1.2) c6]) from (by kernel_rfl)) st (by kernel_rfl) (by kernel_rfl) ?_)
        clear st
        intro w7 st
        refine WO_seg 2 [(13, .int .i64 y3.2.2)] (by kernel_rfl) (by kernel_rfl) ?_
        refine WO_end rfl ?_
        refine X_then ?_
        refine W_seq ?_
        refine W_region ?_
        refine WO_seg 2 [(54, .bool (y3.2.2 == 0))] (by kernel_rfl) (by kernel_rfl) ?_
        refine WO_end rfl ?_
        refine X_then ?_
        refine W_cond (y3.2.2 == 0) (by kernel_rfl) ?_ ?_
        · intro hc
          rw [if_pos hc] at hr
          refine W_seq ?_
          refine W_region ?_
          refine WO_seg 1 [(8, .bool false)] (by kernel_rfl) (by kernel_rfl) ?_
          refine WO_end rfl ?_
          have st := st.front2
          have st := st.tail
          refine X_then ?_
          refine W_ret ?_
          refine X_then_ret ?_
          obtain rfl := Option.some.inj hr
          refine X_ret [.tmp 8] [.bool false] rfl (ResAll.cons (ResAt.tmp (by kernel_rfl)) ResAll.nil) ?_
          have st := st.tail
          have st := st.tail
          exact ⟨m5, rfl, hm, st⟩
        · intro hc
          rw [if_neg (not_true hc)] at hr
          refine W_skip ?_
          refine X_then ?_
          refine W_seq ?_
          refine W_region ?_
          refine WO_seg 1 [(56, .slice a4 (List.length y1.1) c4)] (by kernel_rfl) (by kernel_rfl) ?_
          have st := st.nilroom 5 1
          replace hr := bindS hr
          obtain ⟨l3, hx6, hr⟩ := hr
          refine WO_one rfl (One_append (d := 57) (t := 50) (u := 50) (e := 5) (by_ := 1) (x := (.const (.slice none 0 0))) (y := (.tmp 56)) cU8 (by kernel_rfl) rfl (show evL _ _ = some (.slice none (List.length ([] : List (UInt8))) 0) from (by kernel_rfl)) (show evL _ _ = some (.slice a4 (List.length y1.1) c4) from (by kernel_rfl)) st (by kernel_rfl) (.inl (by kernel_rfl)) (RepS.nil _ _) r4.src hx6 ?_)
          clear st
          intro a7 c7 m6 w8 hle4 st r7
          have hm := Mem.le_trans hm hle4
          have r2 := r2.mono hle4
          have r4 := r4.mono hle4
          have r6 := r6.mono hle4
          refine WO_seg 1 [(58, .slice a4 (List.length y1.1) c4)] (by kernel_rfl) (by kernel_rfl) ?_
          replace hr := bindS hr
          obtain ⟨l4, hx7, hr⟩ := hr
          refine WO_one rfl (One_append (d := 59) (t := 50) (u := 50) (e := 5) (by_ := 1) (x := (.tmp 57)) (y := (.tmp 58)) cU8 (by kernel_rfl) rfl (show evL _ _ = some (.slice a7 (List.length l3) c7) from (by kernel_rfl)) (show evL _ _ = some (.slice a4 (List.length y1.1) c4) from (by kernel_rfl)) st (by kernel_rfl) (.inl (by kernel_rfl)) r7 r4.src hx7 ?_)
          clear st
          intro a8 c8 m7 w9 hle5 st r8
          have hm := Mem.le_trans hm hle5
          have r2 := r2.mono hle5
          have r4 := r4.mono hle5
          have r7 := r7.mono hle5
          have r6 := r6.mono hle5
          replace hr := bindS hr
          obtain ⟨y4, hx8, hr⟩ := hr
          refine WO_one rfl (One_fn 60 39 #[.slice a8 (List.length l4) c8] (by kernel_rfl) rfl ?_)
          refine (wire_Frames_ok st r8 hx8).mono ?_
          clear st
          rintro _ w10 ⟨a9, c9, m8, rfl, hle6, st, r9⟩
          refine ⟨_, rfl, ?_⟩
          have hm := Mem.le_trans hm hle6
          have r2 := r2.mono hle6
          have r4 := r4.mono hle6
          have r7 := r7.mono hle6
          have r8 := r8.mono hle6
          have r6 := r6.mono hle6
          refine WO_seg 7 [(14, .slice a9 (List.length y4.1) c9), (15, .int .i64 y4.2.1), (10, .int .i64 y4.2.2)] (by kernel_rfl) (by kernel_rfl) ?_
          refine WO_end rfl ?_
          have st := st.front1
          have st := st.tail
          refine X_then ?_
          refine W_seq ?_
          refine W_seq ?_
          refine W_region ?_
          replace hr := bindS hr
          obtain ⟨o3, hr, hrK⟩ := hr
          refine WO_cut (j := 23) (fun L' w' => ∃ (m9 : Mem), L' = [(2, .int .i64 y2), (3, .int .u8 p3), (9, .slice a4 (List.length y1.1) c4), (86, .bool o3)] ∧ m.le m9 ∧ St m9 (.blk b1 (.cells #[.int .i64 y3.1.1, .slice a6 (List.length y3.1.2) c6] 54 (0, 0)) :: .room a9 (List.length y4.1) c9 54 2 :: .room a6 (List.length y3.1.2) c6 5 1 :: .room a4 (List.length y1.1) c4 5 1 :: own) w' ∧ RepS cU8 m9 a4 c4 y1.1 ∧ RepS cU8 m9 a6 c6 y3.1.2) ?_ ?_
          · clear hr st
            have hr := hrK
            clear hrK
            rintro _ w11 ⟨m9, rfl, hm, st, r4, r6⟩
            refine WO_end rfl ?_
            refine X_then ?_
            refine W_cond o3 (by kernel_rfl) ?_ ?_
            · intro hc
              rw [if_pos hc] at hr
              refine W_seq ?_
              refine W_region ?_
              refine WO_seg 1 [(8, .bool false)] (by kernel_rfl) (by kernel_rfl) ?_
              refine WO_end rfl ?_
              have st := st.front1
              have st := st.tail
              have st := st.front2
              have st := st.tail
              refine X_then ?_
              refine W_ret ?_
              refine X_then_ret ?_
              obtain rfl := Option.some.inj hr
              refine X_ret [.tmp 8] [.bool false] rfl (ResAll.cons (ResAt.tmp (by kernel_rfl)) ResAll.nil) ?_
              have st := st.tail
              have st := st.tail
              exact ⟨m9, rfl, hm, st⟩
            · intro hc
              rw [if_neg (not_true hc)] at hr
              refine W_skip ?_
              refine X_then ?_
              refine W_seq ?_
              refine W_region ?_
              refine WO_seg 1 [(87, .slice a4 (List.length y1.1) c4)] (by kernel_rfl) (by kernel_rfl) ?_
              replace hr := bindS hr
              obtain ⟨l5, hx11, hr⟩ := hr
              refine WO_one rfl (One_appArr (d := 88) (t := 50) (u := 50) (e := 5) (by_ := 1) (x := (.const (.slice none 0 0))) (y := (.tmp 87)) cU8 (fun x : UInt8 => Value.int .u8 (x.toNat : Int)) (by kernel_rfl) rfl (show evL _ _ = some (.slice none (List.length ([] : List (UInt8))) 0) from (by kernel_rfl)) (show evL _ _ = some (.slice a4 (List.length y1.1) c4) from (by kernel_rfl)) st (by kernel_rfl) (.inl (by kernel_rfl)) rfl (fun _ _ _ h => h) r4.src hx11 ?_)
              clear st
              intro b3 c11 T1 w13 hn1 hn2 hn3 st
              refine WO_seg 1 [(16, .slice (some ⟨b3, 0, none⟩) (List.length l5) c11)] (by kernel_rfl) (by kernel_rfl) ?_
              refine WO_end rfl ?_
              have st := st.front2
              have st := st.tail
              refine X_then ?_
              refine W_seq ?_
              refine W_region ?_
              refine WO_seg 2 [(89, .slice (some ⟨b3, 0, none⟩) (List.length l5) c11), (90, .int .i64 y2)] (by kernel_rfl) (by kernel_rfl) ?_
              replace hr := bindS hr
              obtain ⟨x2, hx12, hr⟩ := hr
              refine WO_one rfl (One_arrIndex (d := 91) (t := 50) (e := 5) (x := (.tmp 89)) (y := (.tmp 90)) (by kernel_rfl) rfl (show evL _ _ = some (.slice (some ⟨b3, 0, none⟩) (List.length l5) c11) from (by kernel_rfl)) (show evL _ _ = some (.int .i64 y2) from (by kernel_rfl)) (by kernel_rfl) rfl hx12 ?_)
              refine WO_one rfl (One_arrLoad (d := 92) (t := 5) (x := (.tmp 91)) (by kernel_rfl) rfl (show evL _ _ = some (.pointer (some ⟨b3, Int.toNat y2, none⟩)) from (by kernel_rfl)) st.head hx12 (by kernel_rfl) ?_)
              refine WO_seg 2 [(94, .int .u8 (iXor .u8 (x2.toNat : Int) p3))] (by kernel_rfl) (by kernel_rfl) ?_
              replace hr := bindS hr
              obtain ⟨x3, hx13, hr⟩ := hr
              refine WO_one rfl (One_arrIndex (d := 95) (t := 50) (e := 5) (x := (.tmp 89)) (y := (.tmp 90)) (by kernel_rfl) rfl (show evL _ _ = some (.slice (some ⟨b3, 0, none⟩) (List.length l5) c11) from (by kernel_rfl)) (show evL _ _ = some (.int .i64 y2) from (by kernel_rfl)) (by kernel_rfl) rfl hx13 ?_)
              refine WO_one rfl (One_arrStore (f := (fun x : UInt8 => Value.int .u8 (x.toNat : Int))) (u := toU8 (iXor .u8 (x2.toNat : Int) p3)) (t := 5) (x := (.tmp 95)) (y := (.tmp 94)) (by kernel_rfl) (show evL _ _ = some (.pointer (some ⟨b3, Int.toNat y2, none⟩)) from (by kernel_rfl)) ((show evL _ _ = some (.int .u8 (iXor .u8 (x2.toNat : Int) p3)) from (by kernel_rfl)).trans (congrArg (fun z => some (Value.int .u8 z)) (toU8_wrap _).symm)) st hx13 rfl (by kernel_rfl) ?_)
              clear st
              intro w14 st
              have hn4 : List.length (List.set l5 (Int.toNat y2) (toU8 (iXor .u8 (x2.toNat : Int) p3))) = (List.length l5) := set_len rfl _ _
              refine WO_end rfl ?_
              refine X_then ?_
              refine W_seq ?_
              refine W_seq ?_
              refine W_region ?_
              refine WO_seg 2 [(97, .bool (p3 == 0))] (by kernel_rfl) (by kernel_rfl) ?_
              refine WO_end rfl ?_
              refine X_then ?_
              refine W_cond (p3 == 0) (by kernel_rfl) ?_ ?_
              · intro hc
                rw [if_pos hc] at hr
                refine W_seq ?_
                refine W_region ?_
                replace hr := bindS hr
                obtain ⟨y6, hx14, hr⟩ := hr
                refine WO_one rfl (One_fn 98 41 #[] (by kernel_rfl) rfl ?_)
                refine (testgatelaw03_awake_ok st hx14).mono ?_
                clear st
                rintro _ w15 ⟨m11, rfl, hle8, st⟩
                refine ⟨_, rfl, ?_⟩
                have hm := Mem.le_trans hm hle8
                have r4 := r4.mono hle8
                have r6 := r6.mono hle8
                refine WO_seg 1 [(8, .bool y6)] (by kernel_rfl) (by kernel_rfl) ?_
                refine WO_end rfl ?_
                have st := st.front3
                have st := st.tail
                refine X_then ?_
                refine W_ret ?_
                refine X_then_ret ?_
                obtain rfl := Option.some.inj hr
                refine X_ret [.tmp 8] [.bool y6] rfl (ResAll.cons (ResAt.tmp (by kernel_rfl)) ResAll.nil) ?_
                have st := st.tail
                have st := st.tail
                have st := st.tail
                exact ⟨m11, rfl, hm, st⟩
              · intro hc
                rw [if_neg (not_true hc)] at hr
                refine W_skip ?_
                refine X_then ?_
                refine W_seq ?_
                refine W_region ?_
                refine WO_seg 1 [(100, .slice (some ⟨b3, 0, none⟩) (List.length l5) c11)] (by kernel_rfl) (by kernel_rfl) ?_
                obtain ⟨m12, hle9, st, r11⟩ := St.freeze (c := cU8) st hn4 hn1 hn2 (acells_size hn4 hn3) rfl (fun _ _ => rfl)
                have hm := Mem.le_trans hm hle9
                have r4 := r4.mono hle9
                have r6 := r6.mono hle9
                refine WO_env [(9, .slice a4 (List.length y1.1) c4), (16, .slice (some ⟨b3, 0, none⟩) (List.length (List.set l5 (Int.toNat y2) (toU8 (iXor .u8 (x2.toNat : Int) p3)))) c11), (97, .bool (p3 == 0)), (100, .slice (some ⟨b3, 0, none⟩) (List.length (List.set l5 (Int.toNat y2) (toU8 (iXor .u8 (x2.toNat : Int) p3)))) c11)] (by rw [hn4]; kernel_rfl) ?_
                replace hr := bindS hr
                obtain ⟨y7, hx15, hr⟩ := hr
                refine WO_one rfl (One_fn 101 36 #[.slice (some ⟨b3, 0, none⟩) (List.length (List.set l5 (Int.toNat y2) (toU8 (iXor .u8 (x2.toNat : Int) p3)))) c11, .int .i64 0] (by kernel_rfl) rfl ?_)
                refine (wire_Next_ok st r11 hx15).mono ?_
                clear st
                rintro _ w16 ⟨a11, c12, m13, rfl, hle10, st, r12⟩
                refine ⟨_, rfl, ?_⟩
                have hm := Mem.le_trans hm hle10
                have r4 := r4.mono hle10
                have r11 := r11.mono hle10
                have r6 := r6.mono hle10
                refine WO_seg 4 [(102, .agg #[.int .i64 y7.1.1, .slice a11 (List.length y7.1.2) c12]), (103, .int .i64 y7.2.1), (104, .int .i64 y7.2.2)] (by kernel_rfl) (by kernel_rfl) ?_
                refine WO_one rfl (One_alloc (d := 17) (e := 54) (.agg #[.int .i64 0, .slice none 0 0]) (by kernel_rfl) rfl (by kernel_rfl) st ?_)
                clear st
                intro b4 w17 st
                refine WO_one rfl (One_store (t := 54) (x := (.tmp 17)) (y := (.tmp 102)) (v := .agg #[.int .i64 y7.1.1, .slice a11 (List.length y7.1.2) c12]) (c' := #[.int .i64 y7.1.1, .slice a11 (List.length y7.1.2) c12]) (by kernel_rfl) (show evL _ _ = some (.pointer (some ⟨b4, 0, none⟩)) from (by kernel_rfl)) (show evL _ _ = some (.agg #[.int .i64 y7.1.1, .slice a11 (List.length y7.1.2) c12]) from (by kernel_rfl)) st (by kernel_rfl) (by kernel_rfl) ?_)
                clear st
                intro w18 st
                refine WO_seg 2 [(18, .int .i64 y7.2.1), (10, .int .i64 y7.2.2)] (by kernel_rfl) (by kernel_rfl) ?_
                refine WO_end rfl ?_
                have st := st.front2
                have st := st.tail
                refine X_then ?_
                refine W_seq ?_
                refine W_region ?_
                replace hr := bindS hr
                obtain ⟨o4, hr, hrK⟩ := hr
                refine WO_cut (j := 12) (fun L' w' => ∃ (m14 : Mem), L' = [(8, .bool o4)] ∧ m.le m14 ∧ St m14 (.blk b4 (.cells #[.int .i64 y7.1.1, .slice a11 (List.length y7.1.2) c12] 54 (0, 0)) :: .blk b1 (.cells #[.int .i64 y3.1.1, .slice a6 (List.length y3.1.2) c6] 54 (0, 0)) :: .room a11 (List.length y7.1.2) c12 5 1 :: .room a6 (List.length y3.1.2) c6 5 1 :: .room a4 (List.length y1.1) c4 5 1 :: own) w' ∧ RepS cU8 m14 a11 c12 y7.1.2 ∧ RepS cU8 m14 a6 c6 y3.1.2) ?_ ?_
                · clear hr st
                  have hr := hrK
                  clear hrK
                  rintro _ w19 ⟨m14, rfl, hm, st, r12, r6⟩
                  refine WO_end rfl ?_
                  refine X_then ?_
                  refine W_ret ?_
                  obtain rfl := Option.some.inj hr
                  refine X_ret [.tmp 8] [.bool o4] rfl (ResAll.cons (ResAt.tmp (by kernel_rfl)) ResAll.nil) ?_
                  have st := st.tail
                  have st := st.tail
                  have st := st.tail
                  have st := st.tail
                  have st := st.tail
                  exact ⟨m14, rfl, hm, st⟩
                · intro K
                  clear hrK
                  refine WO_seg 3 [(107, .bool (y7.2.2 != 0))] (by kernel_rfl) (by kernel_rfl) ?_
                  rcases bcases (y7.2.2 != 0) with hc | hc
                  · rw [if_pos hc] at hr
                    refine WO_fact (t := 107) (b := true) (y7.2.2 != 0) (by kernel_rfl) hc ?_
                    refine WO_seg 6 [(113, .bool true)] (by kernel_rfl) (by kernel_rfl) ?_
                    replace hr := bindS hr
                    obtain ⟨y8, hx16, hr⟩ := hr
                    refine WO_one rfl (One_fn 114 41 #[] (by kernel_rfl) rfl ?_)
                    refine (testgatelaw03_awake_ok st hx16).mono ?_
                    clear st
                    rintro _ w20 ⟨m15, rfl, hle11, st⟩
                    refine ⟨_, rfl, ?_⟩
                    have hm := Mem.le_trans hm hle11
                    have r4 := r4.mono hle11
                    have r12 := r12.mono hle11
                    have r6 := r6.mono hle11
                    refine WO_seg 2 [(8, .bool y8)] (by kernel_rfl) (by kernel_rfl) ?_
                    obtain rfl := Option.some.inj hr
                    have st := st.front4
                    have st := st.front4
                    have st := st.front3
                    have st := st.front4
                    have st := st.front4
                    exact WO_env _ (by kernel_rfl) (K _ _ ⟨m15, rfl, hm, st, r12, r6⟩)
                  · rw [if_neg (not_true hc)] at hr
                    refine WO_fact (t := 107) (b := false) (y7.2.2 != 0) (by kernel_rfl) hc ?_
                    refine WO_seg 6 [(113, .bool (y7.2.1 != (List.length y1.1 : Int)))] (by kernel_rfl) (by kernel_rfl) ?_
                    rcases bcases (y7.2.1 != (List.length y1.1 : Int)) with hc | hc
                    · rw [if_pos hc] at hr
                      refine WO_fact (t := 113) (b := true) (y7.2.1 != (List.length y1.1 : Int)) (by kernel_rfl) hc ?_
                      replace hr := bindS hr
                      obtain ⟨y9, hx17, hr⟩ := hr
                      refine WO_one rfl (One_fn 114 41 #[] (by kernel_rfl) rfl ?_)
                      refine (testgatelaw03_awake_ok st hx17).mono ?_
                      clear st
                      rintro _ w21 ⟨m16, rfl, hle12, st⟩
                      refine ⟨_, rfl, ?_⟩
                      have hm := Mem.le_trans hm hle12
                      have r4 := r4.mono hle12
                      have r12 := r12.mono hle12
                      have r6 := r6.mono hle12
                      refine WO_seg 2 [(8, .bool y9)] (by kernel_rfl) (by kernel_rfl) ?_
                      obtain rfl := Option.some.inj hr
                      have st := st.front4
                      have st := st.front4
                      have st := st.front3
                      have st := st.front4
                      have st := st.front4
                      exact WO_env _ (by kernel_rfl) (K _ _ ⟨m16, rfl, hm, st, r12, r6⟩)
                    · rw [if_neg (not_true hc)] at hr
                      refine WO_fact (t := 113) (b := false) (y7.2.1 != (List.length y1.1 : Int)) (by kernel_rfl) hc ?_
                      refine WO_seg 3 [(8, .bool false)] (by kernel_rfl) (by kernel_rfl) ?_
                      obtain rfl := Option.some.inj hr
                      have st := st.front4
                      have st := st.front4
                      have st := st.front3
                      have st := st.front4
                      have st := st.front4
                      exact WO_env _ (by kernel_rfl) (K _ _ ⟨m13, rfl, hm, st, r12, r6⟩)
          · intro K
            clear hrK
            refine WO_seg 3 [(66, .bool (y4.2.2 != 0))] (by kernel_rfl) (by kernel_rfl) ?_
            rcases bcases (y4.2.2 != 0) with hc | hc
            · rw [if_pos hc] at hr
              refine WO_fact (t := 66) (b := true) (y4.2.2 != 0) (by kernel_rfl) hc ?_
              refine WO_seg 20 [(86, .bool true)] (by kernel_rfl) (by kernel_rfl) ?_
              obtain rfl := Option.some.inj hr
              have st := st.front3
              have st := st.front3
              have st := st.front2
              have st := st.front3
              exact WO_env _ (by kernel_rfl) (K _ _ ⟨m8, rfl, hm, st, r4, r6⟩)
            · rw [if_neg (not_true hc)] at hr
              refine WO_fact (t := 66) (b := false) (y4.2.2 != 0) (by kernel_rfl) hc ?_
              refine WO_seg 7 [(73, .bool (y4.2.1 != (IntKind.wrap .i64 (2 * (List.length y1.1 : Int)))))] (by kernel_rfl) (by kernel_rfl) ?_
              rcases bcases (y4.2.1 != (IntKind.wrap .i64 (2 * (List.length y1.1 : Int)))) with hc | hc
              · rw [if_pos hc] at hr
                refine WO_fact (t := 73) (b := true) (y4.2.1 != (IntKind.wrap .i64 (2 * (List.length y1.1 : Int)))) (by kernel_rfl) hc ?_
                refine WO_seg 13 [(86, .bool true)] (by kernel_rfl) (by kernel_rfl) ?_
                obtain rfl := Option.some.inj hr
                have st := st.front3
                have st := st.front3
                have st := st.front2
                have st := st.front3
                exact WO_env _ (by kernel_rfl) (K _ _ ⟨m8, rfl, hm, st, r4, r6⟩)
              · rw [if_neg (not_true hc)] at hr
                refine WO_fact (t := 73) (b := false) (y4.2.1 != (IntKind.wrap .i64 (2 * (List.length y1.1 : Int)))) (by kernel_rfl) hc ?_
                refine WO_seg 5 [(78, .bool ((List.length y4.1 : Int) != 2))] (by kernel_rfl) (by kernel_rfl) ?_
                rcases bcases ((List.length y4.1 : Int) != 2) with hc | hc
                · rw [if_pos hc] at hr
                  refine WO_fact (t := 78) (b := true) ((List.length y4.1 : Int) != 2) (by kernel_rfl) hc ?_
                  refine WO_seg 8 [(86, .bool true)] (by kernel_rfl) (by kernel_rfl) ?_
                  obtain rfl := Option.some.inj hr
                  have st := st.front3
                  have st := st.front3
                  have st := st.front2
                  have st := st.front3
                  exact WO_env _ (by kernel_rfl) (K _ _ ⟨m8, rfl, hm, st, r4, r6⟩)
                · rw [if_neg (not_true hc)] at hr
                  refine WO_fact (t := 78) (b := false) ((List.length y4.1 : Int) != 2) (by kernel_rfl) hc ?_
                  refine WO_seg 1 [(79, .slice a9 (List.length y4.1) c9)] (by kernel_rfl) (by kernel_rfl) ?_
                  replace hr := bindS hr
                  obtain ⟨x1, hx9, hr⟩ := hr
                  refine WO_one rfl (One_index (d := 80) (t := 62) (e := 54) (x := (.tmp 79)) (y := (.const (.int .i64 1))) (cPair (cInt .i64) (cSl cU8)) (by kernel_rfl) rfl (show evL _ _ = some (.slice a9 (List.length y4.1) c9) from (by kernel_rfl)) (show evL _ _ = some (.int .i64 1) from (by kernel_rfl)) (by kernel_rfl) r9 hx9 ?_)
                  rintro b2 f1 cs1 ⟨_, _, rfl, rfl, ⟨a10, c10, rfl, r10⟩⟩ hq1
                  refine WO_seg 1 [(81, .pointer (some ⟨b2, f1 + 1, none⟩))] (by kernel_rfl) (by kernel_rfl) ?_
                  refine WO_one rfl (One_load_row (d := 82) (t := 50) (x := (.tmp 81)) (.slice a10 (List.length x1.2) c10) (by kernel_rfl) rfl (show evL _ _ = some (.pointer (some ⟨b2, f1 + 1, none⟩)) from (by kernel_rfl)) st (hq1.drop 1) (by kernel_rfl) ?_)
                  refine WO_seg 1 [(83, .slice a2 (List.length o1) c2)] (by kernel_rfl) (by kernel_rfl) ?_
                  replace hr := bindS hr
                  obtain ⟨y5, hx10, hr⟩ := hr
                  refine WO_one rfl (One_fn 84 33 #[.slice a10 (List.length x1.2) c10, .slice a2 (List.length o1) c2] (by kernel_rfl) rfl ?_)
                  refine (testgateref03_Same_ok st r10 r2 hx10).mono ?_
                  clear st
                  rintro _ w12 ⟨m10, rfl, hle7, st⟩
                  refine ⟨_, rfl, ?_⟩
                  have hm := Mem.le_trans hm hle7
                  have r2 := r2.mono hle7
                  have r4 := r4.mono hle7
                  have r9 := r9.mono hle7
                  have hq1 := hq1.mono hle7
                  have r10 := r10.mono hle7
                  have r6 := r6.mono hle7
                  refine WO_seg 2 [(86, .bool (!y5))] (by kernel_rfl) (by kernel_rfl) ?_
                  obtain rfl := Option.some.inj hr
                  have st := st.front3
                  have st := st.front3
                  have st := st.front2
                  have st := st.front3
                  exact WO_env _ (by kernel_rfl) (K _ _ ⟨m10, rfl, hm, st, r4, r6⟩)
    · intro K
      clear hrK
      refine WO_seg 3 [(36, .bool (y1.2 != 0))] (by kernel_rfl) (by kernel_rfl) ?_
      rcases bcases (y1.2 != 0) with hc | hc
      · rw [if_pos hc] at hr
        refine WO_fact (t := 36) (b := true) (y1.2 != 0) (by kernel_rfl) hc ?_
        refine WO_seg 4 [(40, .bool true)] (by kernel_rfl) (by kernel_rfl) ?_
        obtain rfl := Option.some.inj hr
        exact WO_env _ (by kernel_rfl) (K _ _ ⟨m2, rfl, hm, st, r2, r4⟩)
      · rw [if_neg (not_true hc)] at hr
        refine WO_fact (t := 36) (b := false) (y1.2 != 0) (by kernel_rfl) hc ?_
        refine WO_seg 4 [(40, .bool (decide ((List.length y1.1 : Int) < 7)))] (by kernel_rfl) (by kernel_rfl) ?_
        obtain rfl := Option.some.inj hr
        exact WO_env _ (by kernel_rfl) (K _ _ ⟨m2, rfl, hm, st, r2, r4⟩)
  · intro Ku1
    clear hrKu1
    refine W_cond (decide ((List.length p0 : Int) > 300)) (by kernel_rfl) ?_ ?_
    · intro hc
      rw [if_pos hc] at hr
      refine W_region ?_
      refine WO_seg 1 [(22, .slice a1 (List.length p0) c1)] (by kernel_rfl) (by kernel_rfl) ?_
      replace hr := bindS hr
      obtain ⟨l1, hx1, hr⟩ := hr
      refine WO_one rfl (One_slice (d := 23) (t := 50) (e := 5) (x := (.tmp 22)) (lo := none) (hi := (some (.const (.int .i64 300)))) cU8 (by kernel_rfl) rfl (show evL _ _ = some (.slice a1 (List.length p0) c1) from (by kernel_rfl)) (by kernel_rfl) r1 (.inl ⟨rfl, rfl⟩) (.inr ⟨_, _, rfl, (show evL _ _ = some (.int .i64 300) from (by kernel_rfl))⟩) hx1 ?_)
      intro a3 c3 r3
      refine WO_seg 1 [(0, .slice a3 (List.length l1) c3)] (by kernel_rfl) (by kernel_rfl) ?_
      refine WO_end rfl ?_
      obtain rfl := Option.some.inj hr
      exact X_env _ (by kernel_rfl) (Ku1 _ _ ⟨a3, c3, m, rfl, hm, st, r3⟩)
    · intro hc
      rw [if_neg (not_true hc)] at hr
      refine W_skip ?_
      obtain rfl := Option.some.inj hr
      exact X_env _ (by kernel_rfl) (Ku1 _ _ ⟨a1, c1, m, rfl, hm, st, r1⟩)

def testgateref03_PutUint_L1 (N : Nat) (s1 : Int × List (UInt8)) : Option ((Int × List (UInt8)) ⊕ ((Int × List (UInt8)))) :=
  if (decide (s1.1 ≥ 128)) = true then ((appendS 1 s1.2 ([toU8 (IntKind.wrap .u8 ((IntKind.wrap .u8 (Int.tmod s1.1 128)) + 128))])).bind fun l2 => some (.inl (IntKind.wrap .u64 (Int.tdiv s1.1 128), l2))) else (some (.inr (s1.1, s1.2)))

def testgateref03_PutUint (N : Nat) (p0 : List UInt8) (p1 : Int) : Option (List UInt8) :=
  (appendS 1 ([] : List (UInt8)) p0).bind fun l1 => (loopM (testgateref03_PutUint_L1 N) N (p1, l1)).bind fun o1 => (appendS 1 o1.2 ([toU8 (IntKind.wrap .u8 o1.1)])).bind fun l3 => some l3

set_option maxHeartbeats 4000000 in
set_option maxRecDepth 100000 in
theorem testgateref03_PutUint_ok {N : Nat} {m : Mem} {own : List Piece} {w : World} {p0 : List UInt8} {p1 : Int} {a1 : Option Addr} {c1 : Nat} {r : List UInt8} (st : St m (own) w) (r1 : RepS cU8 m a1 c1 p0) (hr : testgateref03_PutUint N p0 p1 = some r) : Calls Go.Proofs.Try.prog 48 #[.slice a1 (List.length p0) c1, .int .u64 p1] w fun e w' => ∃ (ra1 : Option Addr) (rc1 : Nat) (m' : Mem), e = .returned (.slice ra1 (List.length r) rc1) ∧ m.le m' ∧ St m' (.room ra1 (List.length r) rc1 5 1 :: own) w' ∧ RepS cU8 m' ra1 rc1 r := by
  unfold testgateref03_PutUint at hr
  have hm := m.le_refl
  refine W_calls Go.Proofs.Try.func48 rfl Go.Proofs.Try.ntmps48 [(0, .slice a1 (List.length p0) c1), (1, .int .u64 p1)] (by kernel_rfl) rfl ?_
  refine W_seq ?_
  refine W_region ?_
  refine WO_seg 1 [] (by kernel_rfl) (by kernel_rfl) ?_
  refine WO_end rfl ?_
  refine X_then ?_
  refine W_seq ?_
  refine W_region ?_
  refine WO_seg 1 [(6, .slice a1 (List.length p0) c1)] (by kernel_rfl) (by kernel_rfl) ?_
  have st := st.nilroom 5 1
  replace hr := bindS hr
  obtain ⟨l1, hx1, hr⟩ := hr
  refine WO_one rfl (One_append (d := 7) (t := 50) (u := 50) (e := 5) (by_ := 1) (x := (.const (.slice none 0 0))) (y := (.tmp 6)) cU8 (by kernel_rfl) rfl (show evL _ _ = some (.slice none (List.length ([] : List (UInt8))) 0) from (by kernel_rfl)) (show evL _ _ = some (.slice a1 (List.length p0) c1) from (by kernel_rfl)) st (by kernel_rfl) (.inl (by kernel_rfl)) (RepS.nil _ _) r1.src hx1 ?_)
  clear st
  intro a2 c2 m1 w1 hle1 st r2
  have hm := Mem.le_trans hm hle1
  have r1 := r1.mono hle1
  refine WO_seg 1 [(5, .slice a2 (List.length l1) c2)] (by kernel_rfl) (by kernel_rfl) ?_
  refine WO_end rfl ?_
  refine X_then ?_
  refine W_seq ?_
  refine W_block ?_
  replace hr := bindS hr
  obtain ⟨out1, hr, hrKu1⟩ := hr
  refine W_cut (.exit 0) (fun L' w' => ∃ (o1 : Int × List (UInt8)) (a3 : Option Addr) (c3 : Nat) (m2 : Mem), o1 = out1 ∧ L' = [(1, .int .u64 o1.1), (5, .slice a3 (List.length o1.2) c3)] ∧ m.le m2 ∧ St m2 (.room a3 (List.length o1.2) c3 5 1 :: own) w' ∧ RepS cU8 m2 a3 c3 o1.2) ?_ ?_
  · clear hr st
    rintro _ w2 ⟨o1, a3, c3, m2, rfl, rfl, hm, st, r3⟩
    have hr := hrKu1
    clear hrKu1
    refine X_block_eq ?_
    refine X_then ?_
    refine W_seq ?_
    refine W_region ?_
    refine WO_seg 3 [(19, .slice a3 (List.length o1.2) c3), (21, .int .u8 (IntKind.wrap .u8 o1.1))] (by kernel_rfl) (by kernel_rfl) ?_
    refine WO_one rfl (One_buildSlice (d := 22) (t := 50) (e := 5) (len := 1) (parts := #[(0, (.tmp 21))]) cU8 (xs := [toU8 (IntKind.wrap .u8 o1.1)]) [.int .u8 (IntKind.wrap .u8 o1.1)] (by kernel_rfl) rfl (fun _ => buildCells_run (by kernel_rfl) _) rfl rfl st ⟨[.int .u8 (IntKind.wrap .u8 o1.1)], _, rfl, (rep_u8_wrap _), rfl⟩ ?_)
    clear st
    intro b2 m6 w6 hle4 st r7
    have hm := Mem.le_trans hm hle4
    have r3 := r3.mono hle4
    have st := st.front1
    replace hr := bindS hr
    obtain ⟨l3, hx3, hr⟩ := hr
    refine WO_one rfl (One_append (d := 23) (t := 50) (u := 50) (e := 5) (by_ := 1) (x := (.tmp 19)) (y := (.tmp 22)) cU8 (by kernel_rfl) rfl (show evL _ _ = some (.slice a3 (List.length o1.2) c3) from (by kernel_rfl)) (show evL _ _ = some (.slice (some ⟨b2, 0, none⟩) (List.length ([toU8 (IntKind.wrap .u8 o1.1)])) 1) from (by kernel_rfl)) st (by kernel_rfl) (.inl (by kernel_rfl)) r3 r7.src hx3 ?_)
    clear st
    intro a6 c6 m7 w7 hle5 st r8
    have hm := Mem.le_trans hm hle5
    have r3 := r3.mono hle5
    have r7 := r7.mono hle5
    refine WO_seg 1 [(4, .slice a6 (List.length l3) c6)] (by kernel_rfl) (by kernel_rfl) ?_
    refine WO_end rfl ?_
    have st := st.front1
    have st := st.tail
    refine X_then ?_
    refine W_ret ?_
    obtain rfl := Option.some.inj hr
    refine X_ret [.tmp 4] [.slice a6 (List.length l3) c6] rfl (ResAll.cons (ResAt.tmp (by kernel_rfl)) ResAll.nil) ?_
    exact ⟨a6, c6, m7, rfl, hm, st, r8⟩
  intro K0_u1
  clear hrKu1
  refine W_env _ (by kernel_rfl) (W_loop (fun k1 L' w' => ∃ (s1 : Int × List (UInt8)) (a4 : Option Addr) (c4 : Nat) (m3 : Mem), loopM (testgateref03_PutUint_L1 N) k1 s1 = some out1 ∧ L' = [(1, .int .u64 s1.1), (5, .slice a4 (List.length s1.2) c4)] ∧ m.le m3 ∧ St m3 (.room a4 (List.length s1.2) c4 5 1 :: own) w' ∧ RepS cU8 m3 a4 c4 s1.2) N ⟨(p1, l1), a2, c2, m1, hr, rfl, hm, st, r2⟩ ?_)
  clear st hr
  rintro k1 _ w3 ⟨s1, a4, c4, m3, hL, rfl, hm, st, r4⟩
  rcases k1 with _ | k1
  · exact loopM_zero hL
  · obtain ⟨qu1, hr, hSu1, hBu1⟩ := loopM_succ hL
    clear hL
    unfold testgateref03_PutUint_L1 at hr
    refine W_seq ?_
    refine W_seq ?_
    refine W_region ?_
    refine WO_seg 2 [(9, .bool (decide (s1.1 ≥ 128)))] (by kernel_rfl) (by kernel_rfl) ?_
    refine WO_end rfl ?_
    refine X_then ?_
    refine W_cond (decide (s1.1 ≥ 128)) (by kernel_rfl) ?_ ?_
    · intro hc
      rw [if_pos hc] at hr
      refine W_skip ?_
      refine X_then ?_
      refine W_block ?_
      refine W_seq ?_
      refine W_region ?_
      refine WO_seg 5 [(10, .slice a4 (List.length s1.2) c4), (14, .int .u8 (IntKind.wrap .u8 ((IntKind.wrap .u8 (Int.tmod s1.1 128)) + 128)))] (by kernel_rfl) (by kernel_rfl) ?_
      refine WO_one rfl (One_buildSlice (d := 15) (t := 50) (e := 5) (len := 1) (parts := #[(0, (.tmp 14))]) cU8 (xs := [toU8 (IntKind.wrap .u8 ((IntKind.wrap .u8 (Int.tmod s1.1 128)) + 128))]) [.int .u8 (IntKind.wrap .u8 ((IntKind.wrap .u8 (Int.tmod s1.1 128)) + 128))] (by kernel_rfl) rfl (fun _ => buildCells_run (by kernel_rfl) _) rfl rfl st ⟨[.int .u8 (IntKind.wrap .u8 ((IntKind.wrap .u8 (Int.tmod s1.1 128)) + 128))], _, rfl, (rep_u8_wrap _), rfl⟩ ?_)
      clear st
      intro b1 m4 w4 hle2 st r5
      have hm := Mem.le_trans hm hle2
      have r4 := r4.mono hle2
      have st := st.front1
      replace hr := bindS hr
      obtain ⟨l2, hx2, hr⟩ := hr
      refine WO_one rfl (One_append (d := 16) (t := 50) (u := 50) (e := 5) (by_ := 1) (x := (.tmp 10)) (y := (.tmp 15)) cU8 (by kernel_rfl) rfl (show evL _ _ = some (.slice a4 (List.length s1.2) c4) from (by kernel_rfl)) (show evL _ _ = some (.slice (some ⟨b1, 0, none⟩) (List.length ([toU8 (IntKind.wrap .u8 ((IntKind.wrap .u8 (Int.tmod s1.1 128)) + 128))])) 1) from (by kernel_rfl)) st (by kernel_rfl) (.inl (by kernel_rfl)) r4 r5.src hx2 ?_)
      clear st
      intro a5 c5 m5 w5 hle3 st r6
      have hm := Mem.le_trans hm hle3
      have r4 := r4.mono hle3
      have r5 := r5.mono hle3
      refine WO_seg 1 [(5, .slice a5 (List.length l2) c5)] (by kernel_rfl) (by kernel_rfl) ?_
      refine WO_end rfl ?_
      have st := st.front1
      have st := st.tail
      refine X_then ?_
      refine W_region ?_
      refine WO_seg 3 [(1, .int .u64 (IntKind.wrap .u64 (Int.tdiv s1.1 128)))] (by kernel_rfl) (by kernel_rfl) ?_
      refine WO_end rfl ?_
      refine X_block ?_
      obtain rfl := Option.some.inj hr
      have hL := hSu1 _ rfl
      exact X_env _ (by kernel_rfl) (X_round k1 (Nat.lt_succ_self _) ⟨(IntKind.wrap .u64 (Int.tdiv s1.1 128), l2), a5, c5, m5, hL, rfl, hm, st, r6⟩)
    · intro hc
      rw [if_neg (not_true hc)] at hr
      refine W_exit ?_
      refine X_then_exit ?_
      obtain rfl := Option.some.inj hr
      have ho := hBu1 _ rfl
      refine X_then_exit ?_
      exact X_env _ (by kernel_rfl) (K0_u1 _ _ ⟨(s1.1, s1.2), a4, c4, m3, ho, rfl, hm, st, r4⟩)

def testgateref03_Checksum_L1 (N : Nat) (p0 : List UInt8) (s1 : Int × Int × Int) : Option ((Int × Int × Int) ⊕ ((Int × Int))) :=
  if (decide (s1.2.2 < (List.length p0 : Int))) = true then ((idx p0 s1.2.2).bind fun x1 => some (.inl (Int.tmod (IntKind.wrap .u32 (s1.1 + (IntKind.wrap .u32 (x1.toNat : Int)))) 65521, Int.tmod (IntKind.wrap .u32 (s1.2.1 + (Int.tmod (IntKind.wrap .u32 (s1.1 + (IntKind.wrap .u32 (x1.toNat : Int)))) 65521))) 65521, IntKind.wrap .i64 (s1.2.2 + 1)))) else (some (.inr (s1.1, s1.2.1)))

def testgateref03_Checksum (N : Nat) (p0 : List UInt8) : Option (Int) :=
  (loopM (testgateref03_Checksum_L1 N p0) N (1, 0, 0)).bind fun o1 => some (IntKind.wrap .u32 (o1.1 + (IntKind.wrap .u32 (65536 * o1.2))))

set_option maxHeartbeats 4000000 in
set_option maxRecDepth 100000 in
theorem testgateref03_Checksum_ok {N : Nat} {m : Mem} {own : List Piece} {w : World} {p0 : List UInt8} {a1 : Option Addr} {c1 : Nat} {r : Int} (st : St m (own) w) (r1 : RepS cU8 m a1 c1 p0) (hr : testgateref03_Checksum N p0 = some r) : Calls Go.Proofs.Try.prog 35 #[.slice a1 (List.length p0) c1] w fun e w' => ∃ (m' : Mem), e = .returned (.int .u32 r) ∧ m.le m' ∧ St m' (own) w' := by
  unfold testgateref03_Checksum at hr
  have hm := m.le_refl
  refine W_calls Go.Proofs.Try.func35 rfl Go.Proofs.Try.ntmps35 [(0, .slice a1 (List.length p0) c1)] (by kernel_rfl) rfl ?_
  refine W_seq ?_
  refine W_region ?_
  refine WO_seg 1 [] (by kernel_rfl) (by kernel_rfl) ?_
  refine WO_end rfl ?_
  refine X_then ?_
  refine W_seq ?_
  refine W_region ?_
  refine WO_seg 2 [(3, .int .u32 1), (4, .int .u32 0)] (by kernel_rfl) (by kernel_rfl) ?_
  refine WO_end rfl ?_
  refine X_then ?_
  refine W_seq ?_
  refine W_seq ?_
  refine W_region ?_
  refine WO_seg 1 [(5, .int .i64 0)] (by kernel_rfl) (by kernel_rfl) ?_
  refine WO_end rfl ?_
  refine X_then ?_
  refine W_block ?_
  replace hr := bindS hr
  obtain ⟨out1, hr, hrKu1⟩ := hr
  refine W_cut (.exit 0) (fun L' w' => ∃ (o1 : Int × Int) (m1 : Mem), o1 = out1 ∧ L' = [(3, .int .u32 o1.1), (4, .int .u32 o1.2)] ∧ m.le m1 ∧ St m1 (own) w') ?_ ?_
  · clear hr st
    rintro _ w1 ⟨o1, m1, rfl, rfl, hm, st⟩
    have hr := hrKu1
    clear hrKu1
    refine X_block_eq ?_
    refine X_then ?_
    refine W_seq ?_
    refine W_region ?_
    refine WO_seg 5 [(2, .int .u32 (IntKind.wrap .u32 (o1.1 + (IntKind.wrap .u32 (65536 * o1.2)))))] (by kernel_rfl) (by kernel_rfl) ?_
    refine WO_end rfl ?_
    refine X_then ?_
    refine W_ret ?_
    obtain rfl := Option.some.inj hr
    refine X_ret [.tmp 2] [.int .u32 (IntKind.wrap .u32 (o1.1 + (IntKind.wrap .u32 (65536 * o1.2))))] rfl (ResAll.cons (ResAt.tmp (by kernel_rfl)) ResAll.nil) ?_
    exact ⟨m1, rfl, hm, st⟩
  intro K0_u1
  clear hrKu1
  refine W_env _ (by kernel_rfl) (W_loop (fun k1 L' w' => ∃ (s1 : Int × Int × Int) (m2 : Mem), loopM (testgateref03_Checksum_L1 N p0) k1 s1 = some out1 ∧ L' = [(0, .slice a1 (List.length p0) c1), (3, .int .u32 s1.1), (4, .int .u32 s1.2.1), (5, .int .i64 s1.2.2)] ∧ m.le m2 ∧ St m2 (own) w' ∧ RepS cU8 m2 a1 c1 p0) N ⟨(1, 0, 0), m, hr, rfl, hm, st, r1⟩ ?_)
  clear st hr
  rintro k1 _ w2 ⟨s1, m2, hL, rfl, hm, st, r1⟩
  rcases k1 with _ | k1
  · exact loopM_zero hL
  · obtain ⟨qu1, hr, hSu1, hBu1⟩ := loopM_succ hL
    clear hL
    unfold testgateref03_Checksum_L1 at hr
    refine W_seq ?_
    refine W_seq ?_
    refine W_region ?_
    refine WO_seg 4 [(9, .bool (decide (s1.2.2 < (List.length p0 : Int))))] (by kernel_rfl) (by kernel_rfl) ?_
    refine WO_end rfl ?_
    refine X_then ?_
    refine W_cond (decide (s1.2.2 < (List.length p0 : Int))) (by kernel_rfl) ?_ ?_
    · intro hc
      rw [if_pos hc] at hr
      refine W_skip ?_
      refine X_then ?_
      refine W_seq ?_
      refine W_block ?_
      refine W_seq ?_
      refine W_region ?_
      refine WO_seg 3 [(12, .int .u32 s1.1), (13, .slice a1 (List.length p0) c1), (14, .int .i64 s1.2.2)] (by kernel_rfl) (by kernel_rfl) ?_
      replace hr := bindS hr
      obtain ⟨x1, hx1, hr⟩ := hr
      refine WO_one rfl (One_index (d := 15) (t := 50) (e := 5) (x := (.tmp 13)) (y := (.tmp 14)) cU8 (by kernel_rfl) rfl (show evL _ _ = some (.slice a1 (List.length p0) c1) from (by kernel_rfl)) (show evL _ _ = some (.int .i64 s1.2.2) from (by kernel_rfl)) (by kernel_rfl) r1 hx1 ?_)
      rintro b1 f1 cs1 rfl hq1
      refine WO_one rfl (One_load_row (d := 16) (t := 5) (x := (.tmp 15)) (.int .u8 (x1.toNat : Int)) (by kernel_rfl) rfl (show evL _ _ = some (.pointer (some ⟨b1, f1, none⟩)) from (by kernel_rfl)) st hq1 (by kernel_rfl) ?_)
      refine WO_seg 4 [(3, .int .u32 (Int.tmod (IntKind.wrap .u32 (s1.1 + (IntKind.wrap .u32 (x1.toNat : Int)))) 65521))] (by kernel_rfl) (by kernel_rfl) ?_
      refine WO_end rfl ?_
      refine X_then ?_
      refine W_region ?_
      refine WO_seg 5 [(4, .int .u32 (Int.tmod (IntKind.wrap .u32 (s1.2.1 + (Int.tmod (IntKind.wrap .u32 (s1.1 + (IntKind.wrap .u32 (x1.toNat : Int)))) 65521))) 65521))] (by kernel_rfl) (by kernel_rfl) ?_
      refine WO_end rfl ?_
      refine X_block ?_
      refine X_then ?_
      refine W_region ?_
      refine WO_seg 3 [(5, .int .i64 (IntKind.wrap .i64 (s1.2.2 + 1)))] (by kernel_rfl) (by kernel_rfl) ?_
      refine WO_end rfl ?_
      obtain rfl := Option.some.inj hr
      have hL := hSu1 _ rfl
      exact X_env _ (by kernel_rfl) (X_round k1 (Nat.lt_succ_self _) ⟨(Int.tmod (IntKind.wrap .u32 (s1.1 + (IntKind.wrap .u32 (x1.toNat : Int)))) 65521, Int.tmod (IntKind.wrap .u32 (s1.2.1 + (Int.tmod (IntKind.wrap .u32 (s1.1 + (IntKind.wrap .u32 (x1.toNat : Int)))) 65521))) 65521, IntKind.wrap .i64 (s1.2.2 + 1)), m2, hL, rfl, hm, st, r1⟩)
    · intro hc
      rw [if_neg (not_true hc)] at hr
      refine W_exit ?_
      refine X_then_exit ?_
      obtain rfl := Option.some.inj hr
      have ho := hBu1 _ rfl
      refine X_then_exit ?_
      exact X_env _ (by kernel_rfl) (K0_u1 _ _ ⟨(s1.1, s1.2.1), m2, ho, rfl, hm, st⟩)

def testgateref03_Frame (N : Nat) (p0 : Int × List UInt8) : Option (List UInt8 × Int) :=
  (if (decide (p0.1 < 1)) = true then (some true) else (some (decide (p0.1 > 255))) : Option (Bool)).bind fun o1 => if o1 = true then (some (([] : List (UInt8)), 3)) else (if (decide ((List.length p0.2 : Int) > 2097152)) = true then (some (([] : List (UInt8)), 2)) else ((testgateref03_PutUint N ([(247 : UInt8), toU8 (IntKind.wrap .u8 p0.1)]) (IntKind.wrap .u64 (List.length p0.2 : Int))).bind fun y1 => (appendS 1 y1 p0.2).bind fun l1 => (subS l1 1 (List.length l1 : Int)).bind fun l2 => (testgateref03_Checksum N l2).bind fun y2 => (appendS 1 l1 ([toU8 (IntKind.wrap .u8 y2), toU8 (IntKind.wrap .u8 (Int.fdiv y2 (2 ^ 8))), toU8 (IntKind.wrap .u8 (Int.fdiv y2 (2 ^ 16))), toU8 (IntKind.wrap .u8 (Int.fdiv y2 (2 ^ 24)))])).bind fun l3 => some (l3, 0)))

set_option maxHeartbeats 4000000 in
set_option maxRecDepth 100000 in
theorem testgateref03_Frame_ok {N : Nat} {m : Mem} {own : List Piece} {w : World} {p0 : Int × List UInt8} {a1 : Option Addr} {c1 : Nat} {r : List UInt8 × Int} (st : St m (own) w) (r1 : RepS cU8 m a1 c1 p0.2) (hr : testgateref03_Frame N p0 = some r) : Calls Go.Proofs.Try.prog 32 #[.agg #[.int .i64 p0.1, .slice a1 (List.length p0.2) c1]] w fun e w' => ∃ (ra1 : Option Addr) (rc1 : Nat) (m' : Mem), e = .returned (.tuple #[.slice ra1 (List.length r.1) rc1, .int .i64 r.2]) ∧ m.le m' ∧ St m' (.room ra1 (List.length r.1) rc1 5 1 :: own) w' ∧ RepS cU8 m' ra1 rc1 r.1 := by
  unfold testgateref03_Frame at hr
  have hm := m.le_refl
  refine W_calls Go.Proofs.Try.func32 rfl Go.Proofs.Try.ntmps32 [(0, .agg #[.int .i64 p0.1, .slice a1 (List.length p0.2) c1])] (by kernel_rfl) rfl ?_
  refine W_seq ?_
  refine W_region ?_
  refine WO_one rfl (One_box (d := 1) (e := 54) (x := (.tmp 0)) (.agg #[.int .i64 p0.1, .slice a1 (List.length p0.2) c1]) (by kernel_rfl) rfl (by kernel_rfl) st ?_)
  clear st
  intro b1 m1 w1 hle1 st hb1
  have hm := Mem.le_trans hm hle1
  have r1 := r1.mono hle1
  refine WO_seg 2 [] (by kernel_rfl) (by kernel_rfl) ?_
  refine WO_end rfl ?_
  refine X_then ?_
  refine W_seq ?_
  refine W_seq ?_
  refine W_region ?_
  replace hr := bindS hr
  obtain ⟨o1, hr, hrK⟩ := hr
  refine WO_cut (j := 8) (fun L' w' => ∃ (m2 : Mem), L' = [(1, .pointer (some ⟨b1, 0, none⟩)), (13, .bool o1)] ∧ m.le m2 ∧ St m2 (own) w' ∧ MRow m2 b1 0 [.int .i64 p0.1, .slice a1 (List.length p0.2) c1] ∧ RepS cU8 m2 a1 c1 p0.2) ?_ ?_
  · clear hr st
    have hr := hrK
    clear hrK
    rintro _ w2 ⟨m2, rfl, hm, st, hb1, r1⟩
    refine WO_end rfl ?_
    refine X_then ?_
    refine W_cond o1 (by kernel_rfl) ?_ ?_
    · intro hc
      rw [if_pos hc] at hr
      refine W_seq ?_
      refine W_region ?_
      refine WO_seg 2 [(2, .slice none (List.length ([] : List (UInt8))) 0), (3, .int .i64 3)] (by kernel_rfl) (by kernel_rfl) ?_
      refine WO_end rfl ?_
      refine X_then ?_
      refine W_ret ?_
      refine X_then_ret ?_
      obtain rfl := Option.some.inj hr
      refine X_ret [.tmp 2, .tmp 3] [.slice none (List.length ([] : List (UInt8))) 0, .int .i64 3] rfl (ResAll.cons (ResAt.tmp (by kernel_rfl)) (ResAll.cons (ResAt.tmp (by kernel_rfl)) ResAll.nil)) ?_
      have st := st.nilroom 5 1
      exact ⟨none, 0, m2, rfl, hm, st, (RepS.nil _ _)⟩
    · intro hc
      rw [if_neg (not_true hc)] at hr
      refine W_skip ?_
      refine X_then ?_
      refine W_seq ?_
      refine W_seq ?_
      refine W_region ?_
      refine WO_seg 1 [(14, .pointer (some ⟨b1, 1, none⟩))] (by kernel_rfl) (by kernel_rfl) ?_
      refine WO_one rfl (One_load_row (d := 15) (t := 50) (x := (.tmp 14)) (.slice a1 (List.length p0.2) c1) (by kernel_rfl) rfl (show evL _ _ = some (.pointer (some ⟨b1, 1, none⟩)) from (by kernel_rfl)) st (hb1.drop 1) (by kernel_rfl) ?_)
      refine WO_seg 2 [(17, .bool (decide ((List.length p0.2 : Int) > 2097152)))] (by kernel_rfl) (by kernel_rfl) ?_
      refine WO_end rfl ?_
      refine X_then ?_
      refine W_cond (decide ((List.length p0.2 : Int) > 2097152)) (by kernel_rfl) ?_ ?_
      · intro hc
        rw [if_pos hc] at hr
        refine W_seq ?_
        refine W_region ?_
        refine WO_seg 2 [(2, .slice none (List.length ([] : List (UInt8))) 0), (3, .int .i64 2)] (by kernel_rfl) (by kernel_rfl) ?_
        refine WO_end rfl ?_
        refine X_then ?_
        refine W_ret ?_
        refine X_then_ret ?_
        obtain rfl := Option.some.inj hr
        refine X_ret [.tmp 2, .tmp 3] [.slice none (List.length ([] : List (UInt8))) 0, .int .i64 2] rfl (ResAll.cons (ResAt.tmp (by kernel_rfl)) (ResAll.cons (ResAt.tmp (by kernel_rfl)) ResAll.nil)) ?_
        have st := st.nilroom 5 1
        exact ⟨none, 0, m2, rfl, hm, st, (RepS.nil _ _)⟩
      · intro hc
        rw [if_neg (not_true hc)] at hr
        refine W_skip ?_
        refine X_then ?_
        refine W_seq ?_
        refine W_draw [(13, fun w' => Inv m2 w' ∧ True)] (by kernel_rfl) st ?_
        clear st
        intro w3 _ st
        have hmS := m2.le_refl
        refine ⟨⟨.inr ⟨Inv.anti st.inv hmS, trivial⟩, trivial⟩, ?_⟩
        refine WA_pure 0 18 (.pointer (some ⟨b1, 0, none⟩)) (by kernel_rfl) rfl (by kernel_rfl) (.head _) (QP_then QP_body) ?_
        refine WA_load_row (t := 3) (x := (.tmp 18)) 1 19 (.int .i64 p0.1) (by kernel_rfl) rfl (by kernel_rfl) (.head _) (QP_then QP_body) (fun _ h => h.1) (show evL _ _ = some (.pointer (some ⟨b1, 0, none⟩)) from (by kernel_rfl)) hb1 (by kernel_rfl) ?_
        refine WA_pure 2 20 (.int .u8 (IntKind.wrap .u8 p0.1)) (by kernel_rfl) rfl (by kernel_rfl) (.head _) (QP_then QP_body) ?_
        refine WA_pure 4 22 (.pointer (some ⟨b1, 1, none⟩)) (by kernel_rfl) rfl (by kernel_rfl) (.head _) (QP_then QP_body) ?_
        refine WA_load_row (t := 50) (x := (.tmp 22)) 5 23 (.slice a1 (List.length p0.2) c1) (by kernel_rfl) rfl (by kernel_rfl) (.head _) (QP_then QP_body) (fun _ h => h.1) (show evL _ _ = some (.pointer (some ⟨b1, 1, none⟩)) from (by kernel_rfl)) (hb1.drop 1) (by kernel_rfl) ?_
        refine WA_pure 6 24 (.int .i64 (List.length p0.2 : Int)) (by kernel_rfl) rfl (by kernel_rfl) (.head _) (QP_then QP_body) ?_
        refine WA_pure 7 25 (.int .u64 (IntKind.wrap .u64 (List.length p0.2 : Int))) (by kernel_rfl) rfl (by kernel_rfl) (.head _) (QP_then QP_body) ?_
        refine WA_pure 9 27 (.pointer (some ⟨b1, 1, none⟩)) (by kernel_rfl) rfl (by kernel_rfl) (.head _) (QP_then QP_body) ?_
        refine WA_load_row (t := 50) (x := (.tmp 27)) 10 28 (.slice a1 (List.length p0.2) c1) (by kernel_rfl) rfl (by kernel_rfl) (.head _) (QP_then QP_body) (fun _ h => h.1) (show evL _ _ = some (.pointer (some ⟨b1, 1, none⟩)) from (by kernel_rfl)) (hb1.drop 1) (by kernel_rfl) ?_
        refine WA_one 3 (by kernel_rfl) (One_buildSlice (d := 21) (t := 50) (e := 5) (len := 2) (parts := #[(0, (.const (.int .u8 247))), (1, (.tmp 20))]) cU8 (xs := [(247 : UInt8), toU8 (IntKind.wrap .u8 p0.1)]) [.int .u8 247, .int .u8 (IntKind.wrap .u8 p0.1)] (by kernel_rfl) rfl (fun _ => buildCells_run (by kernel_rfl) _) rfl rfl st ⟨[.int .u8 247], _, rfl, rfl, ⟨[.int .u8 (IntKind.wrap .u8 p0.1)], _, rfl, (rep_u8_wrap _), rfl⟩⟩ ?_)
        clear st
        intro b2 m3 w4 hle2 st r2
        have hm := Mem.le_trans hm hle2
        have hb1 := hb1.mono hle2
        have r1 := r1.mono hle2
        have hmS := Mem.le_trans hmS hle2
        refine ⟨⟨.inr ⟨Inv.anti st.inv hmS, trivial⟩, trivial⟩, ?_⟩
        replace hr := bindS hr
        obtain ⟨y1, hx1, hr⟩ := hr
        refine WA_one 8 (by kernel_rfl) (One_fn 26 48 #[.slice (some ⟨b2, 0, none⟩) (List.length ([(247 : UInt8), toU8 (IntKind.wrap .u8 p0.1)])) 2, .int .u64 (IntKind.wrap .u64 (List.length p0.2 : Int))] (by kernel_rfl) rfl ?_)
        refine (testgateref03_PutUint_ok st r2 hx1).mono ?_
        clear st
        rintro _ w5 ⟨a2, c2, m4, rfl, hle3, st, r3⟩
        refine ⟨_, rfl, ?_⟩
        have hm := Mem.le_trans hm hle3
        have hb1 := hb1.mono hle3
        have r1 := r1.mono hle3
        have r2 := r2.mono hle3
        have hmS := Mem.le_trans hmS hle3
        refine ⟨⟨.inr ⟨Inv.anti st.inv hmS, trivial⟩, trivial⟩, ?_⟩
        replace hr := bindS hr
        obtain ⟨l1, hx2, hr⟩ := hr
        refine WA_one 11 (by kernel_rfl) (One_append (d := 29) (t := 50) (u := 50) (e := 5) (by_ := 1) (x := (.tmp 26)) (y := (.tmp 28)) cU8 (by kernel_rfl) rfl (show evL _ _ = some (.slice a2 (List.length y1) c2) from (by kernel_rfl)) (show evL _ _ = some (.slice a1 (List.length p0.2) c1) from (by kernel_rfl)) st (by kernel_rfl) (.inl (by kernel_rfl)) r3 r1.src hx2 ?_)
        clear st
        intro a3 c3 m5 w6 hle4 st r4
        have hm := Mem.le_trans hm hle4
        have hb1 := hb1.mono hle4
        have r1 := r1.mono hle4
        have r2 := r2.mono hle4
        have r3 := r3.mono hle4
        have hmS := Mem.le_trans hmS hle4
        refine ⟨⟨.inr ⟨Inv.anti st.inv hmS, trivial⟩, trivial⟩, ?_⟩
        refine WA_pure 12 4 (.slice a3 (List.length l1) c3) (by kernel_rfl) rfl (by kernel_rfl) (.head _) (QP_then QP_body) ?_
        refine WA_done (by kernel_rfl) ?_
        have st := st.front1
        have st := st.tail
        refine X_then ?_
        refine W_seq ?_
        refine W_region ?_
        refine WO_seg 1 [(30, .slice a3 (List.length l1) c3)] (by kernel_rfl) (by kernel_rfl) ?_
        replace hr := bindS hr
        obtain ⟨l2, hx3, hr⟩ := hr
        refine WO_one rfl (One_slice (d := 31) (t := 50) (e := 5) (x := (.tmp 30)) (lo := (some (.const (.int .i64 1)))) (hi := none) cU8 (by kernel_rfl) rfl (show evL _ _ = some (.slice a3 (List.length l1) c3) from (by kernel_rfl)) (by kernel_rfl) r4 (.inr ⟨_, _, rfl, (show evL _ _ = some (.int .i64 1) from (by kernel_rfl))⟩) (.inl ⟨rfl, rfl⟩) hx3 ?_)
        intro a4 c4 r5
        replace hr := bindS hr
        obtain ⟨y2, hx4, hr⟩ := hr
        refine WO_one rfl (One_fn 32 35 #[.slice a4 (List.length l2) c4] (by kernel_rfl) rfl ?_)
        refine (testgateref03_Checksum_ok st r5 hx4).mono ?_
        clear st
        rintro _ w7 ⟨m6, rfl, hle5, st⟩
        refine ⟨_, rfl, ?_⟩
        have hm := Mem.le_trans hm hle5
        have r4 := r4.mono hle5
        have r5 := r5.mono hle5
        refine WO_seg 1 [(5, .int .u32 y2)] (by kernel_rfl) (by kernel_rfl) ?_
        refine WO_end rfl ?_
        refine X_then ?_
        refine W_seq ?_
        refine W_region ?_
        refine WO_seg 12 [(33, .slice a3 (List.length l1) c3), (35, .int .u8 (IntKind.wrap .u8 y2)), (38, .int .u8 (IntKind.wrap .u8 (Int.fdiv y2 (2 ^ 8)))), (41, .int .u8 (IntKind.wrap .u8 (Int.fdiv y2 (2 ^ 16)))), (44, .int .u8 (IntKind.wrap .u8 (Int.fdiv y2 (2 ^ 24))))] (by kernel_rfl) (by kernel_rfl) ?_
        refine WO_one rfl (One_buildSlice (d := 45) (t := 50) (e := 5) (len := 4) (parts := #[(0, (.tmp 35)), (1, (.tmp 38)), (2, (.tmp 41)), (3, (.tmp 44))]) cU8 (xs := [toU8 (IntKind.wrap .u8 y2), toU8 (IntKind.wrap .u8 (Int.fdiv y2 (2 ^ 8))), toU8 (IntKind.wrap .u8 (Int.fdiv y2 (2 ^ 16))), toU8 (IntKind.wrap .u8 (Int.fdiv y2 (2 ^ 24)))]) [.int .u8 (IntKind.wrap .u8 y2), .int .u8 (IntKind.wrap .u8 (Int.fdiv y2 (2 ^ 8))), .int .u8 (IntKind.wrap .u8 (Int.fdiv y2 (2 ^ 16))), .int .u8 (IntKind.wrap .u8 (Int.fdiv y2 (2 ^ 24)))] (by kernel_rfl) rfl (fun _ => buildCells_run (by kernel_rfl) _) rfl rfl st ⟨[.int .u8 (IntKind.wrap .u8 y2)], _, rfl, (rep_u8_wrap _), ⟨[.int .u8 (IntKind.wrap .u8 (Int.fdiv y2 (2 ^ 8)))], _, rfl, (rep_u8_wrap _), ⟨[.int .u8 (IntKind.wrap .u8 (Int.fdiv y2 (2 ^ 16)))], _, rfl, (rep_u8_wrap _), ⟨[.int .u8 (IntKind.wrap .u8 (Int.fdiv y2 (2 ^ 24)))], _, rfl, (rep_u8_wrap _), rfl⟩⟩⟩⟩ ?_)
        clear st
        intro b3 m7 w8 hle6 st r6
        have hm := Mem.le_trans hm hle6
        have r4 := r4.mono hle6
        have st := st.front1
        replace hr := bindS hr
        obtain ⟨l3, hx5, hr⟩ := hr
        refine WO_one rfl (One_append (d := 46) (t := 50) (u := 50) (e := 5) (by_ := 1) (x := (.tmp 33)) (y := (.tmp 45)) cU8 (by kernel_rfl) rfl (show evL _ _ = some (.slice a3 (List.length l1) c3) from (by kernel_rfl)) (show evL _ _ = some (.slice (some ⟨b3, 0, none⟩) (List.length ([toU8 (IntKind.wrap .u8 y2), toU8 (IntKind.wrap .u8 (Int.fdiv y2 (2 ^ 8))), toU8 (IntKind.wrap .u8 (Int.fdiv y2 (2 ^ 16))), toU8 (IntKind.wrap .u8 (Int.fdiv y2 (2 ^ 24)))])) 4) from (by kernel_rfl)) st (by kernel_rfl) (.inl (by kernel_rfl)) r4 r6.src hx5 ?_)
        clear st
        intro a5 c5 m8 w9 hle7 st r7
        have hm := Mem.le_trans hm hle7
        have r4 := r4.mono hle7
        have r6 := r6.mono hle7
        refine WO_seg 2 [(2, .slice a5 (List.length l3) c5), (3, .int .i64 0)] (by kernel_rfl) (by kernel_rfl) ?_
        refine WO_end rfl ?_
        have st := st.front1
        have st := st.tail
        refine X_then ?_
        refine W_ret ?_
        obtain rfl := Option.some.inj hr
        refine X_ret [.tmp 2, .tmp 3] [.slice a5 (List.length l3) c5, .int .i64 0] rfl (ResAll.cons (ResAt.tmp (by kernel_rfl)) (ResAll.cons (ResAt.tmp (by kernel_rfl)) ResAll.nil)) ?_
        exact ⟨a5, c5, m8, rfl, hm, st, r7⟩
  · intro K
    clear hrK
    refine WO_seg 1 [(6, .pointer (some ⟨b1, 0, none⟩))] (by kernel_rfl) (by kernel_rfl) ?_
    refine WO_one rfl (One_load_row (d := 7) (t := 3) (x := (.tmp 6)) (.int .i64 p0.1) (by kernel_rfl) rfl (show evL _ _ = some (.pointer (some ⟨b1, 0, none⟩)) from (by kernel_rfl)) st hb1 (by kernel_rfl) ?_)
    refine WO_seg 2 [(9, .bool (decide (p0.1 < 1)))] (by kernel_rfl) (by kernel_rfl) ?_
    rcases bcases (decide (p0.1 < 1)) with hc | hc
    · rw [if_pos hc] at hr
      refine WO_fact (t := 9) (b := true) (decide (p0.1 < 1)) (by kernel_rfl) hc ?_
      refine WO_seg 4 [(13, .bool true)] (by kernel_rfl) (by kernel_rfl) ?_
      obtain rfl := Option.some.inj hr
      exact WO_env _ (by kernel_rfl) (K _ _ ⟨m1, rfl, hm, st, hb1, r1⟩)
    · rw [if_neg (not_true hc)] at hr
      refine WO_fact (t := 9) (b := false) (decide (p0.1 < 1)) (by kernel_rfl) hc ?_
      refine WO_seg 1 [(10, .pointer (some ⟨b1, 0, none⟩))] (by kernel_rfl) (by kernel_rfl) ?_
      refine WO_one rfl (One_load_row (d := 11) (t := 3) (x := (.tmp 10)) (.int .i64 p0.1) (by kernel_rfl) rfl (show evL _ _ = some (.pointer (some ⟨b1, 0, none⟩)) from (by kernel_rfl)) st hb1 (by kernel_rfl) ?_)
      refine WO_seg 2 [(13, .bool (decide (p0.1 > 255)))] (by kernel_rfl) (by kernel_rfl) ?_
      obtain rfl := Option.some.inj hr
      exact WO_env _ (by kernel_rfl) (K _ _ ⟨m1, rfl, hm, st, hb1, r1⟩)

def testgateref03_Uint_L1 (N : Nat) (p0 : List UInt8) (s1 : Int) : Option ((Int) ⊕ ((Int))) :=
  (if (decide (s1 < (List.length p0 : Int))) = true then ((idx p0 s1).bind fun x1 => some (decide ((x1.toNat : Int) ≥ 128))) else (some false) : Option (Bool)).bind fun o3 => if o3 = true then (some (.inl (IntKind.wrap .i64 (s1 + 1)))) else (some (.inr s1))

def testgateref03_Uint_L2 (N : Nat) (p0 : List UInt8) (p1 : Int) (s2 : Int × Int) : Option ((Int × Int) ⊕ ((Int))) :=
  if (decide (s2.2 ≥ p1)) = true then ((idx p0 s2.2).bind fun x5 => some (.inl (IntKind.wrap .u64 ((IntKind.wrap .u64 (s2.1 * 128)) + (IntKind.wrap .u64 (Int.tmod (x5.toNat : Int) 128))), IntKind.wrap .i64 (s2.2 - 1)))) else (some (.inr s2.1))

def testgateref03_Uint (N : Nat) (p0 : List UInt8) (p1 : Int) : Option (Int × Int × Int) :=
  (if (decide (p1 < 0)) = true then (some true) else (some (decide (p1 > (List.length p0 : Int)))) : Option (Bool)).bind fun o1 => if o1 = true then (some (0, 0, 3)) else ((loopM (testgateref03_Uint_L1 N p0) N p1).bind fun o2 => if (o2 == (List.length p0 : Int)) = true then (some (0, 0, 7)) else ((if (decide ((IntKind.wrap .i64 (o2 - p1)) ≥ 10)) = true then (some true) else (if ((IntKind.wrap .i64 (o2 - p1)) == 9) = true then ((idx p0 o2).bind fun x2 => if (decide ((x2.toNat : Int) > 1)) = true then (some true) else (if (decide (o2 > p1)) = true then ((idx p0 o2).bind fun x3 => some ((x3.toNat : Int) == 0)) else (some false))) else (if (decide (o2 > p1)) = true then ((idx p0 o2).bind fun x4 => some ((x4.toNat : Int) == 0)) else (some false))) : Option (Bool)).bind fun o4 => if o4 = true then (some (0, 0, 6)) else ((loopM (testgateref03_Uint_L2 N p0 p1) N (0, o2)).bind fun o5 => some (o5, IntKind.wrap .i64 (o2 + 1), 0))))

set_option maxHeartbeats 4000000 in
set_option maxRecDepth 100000 in
theorem testgateref03_Uint_ok {N : Nat} {m : Mem} {own : List Piece} {w : World} {p0 : List UInt8} {p1 : Int} {a1 : Option Addr} {c1 : Nat} {r : Int × Int × Int} (st : St m (own) w) (r1 : RepS cU8 m a1 c1 p0) (hr : testgateref03_Uint N p0 p1 = some r) : Calls Go.Proofs.Try.prog 50 #[.slice a1 (List.length p0) c1, .int .i64 p1] w fun e w' => ∃ (m' : Mem), e = .returned (.tuple #[.int .u64 r.1, .int .i64 r.2.1, .int .i64 r.2.2]) ∧ m.le m' ∧ St m' (own) w' := by
  unfold testgateref03_Uint at hr
  have hm := m.le_refl
  refine W_calls Go.Proofs.Try.func50 rfl Go.Proofs.Try.ntmps50 [(0, .slice a1 (List.length p0) c1), (1, .int .i64 p1)] (by kernel_rfl) rfl ?_
  refine W_seq ?_
  refine W_region ?_
  refine WO_seg 3 [(4, .int .u64 0)] (by kernel_rfl) (by kernel_rfl) ?_
  refine WO_end rfl ?_
  refine X_then ?_
  refine W_seq ?_
  refine W_seq ?_
  refine W_region ?_
  replace hr := bindS hr
  obtain ⟨o1, hr, hrK⟩ := hr
  refine WO_cut (j := 8) (fun L' w' => ∃ (m1 : Mem), L' = [(0, .slice a1 (List.length p0) c1), (1, .int .i64 p1), (4, .int .u64 0), (16, .bool o1)] ∧ m.le m1 ∧ St m1 (own) w' ∧ RepS cU8 m1 a1 c1 p0) ?_ ?_
  · clear hr st
    have hr := hrK
    clear hrK
    rintro _ w1 ⟨m1, rfl, hm, st, r1⟩
    refine WO_end rfl ?_
    refine X_then ?_
    refine W_cond o1 (by kernel_rfl) ?_ ?_
    · intro hc
      rw [if_pos hc] at hr
      refine W_seq ?_
      refine W_region ?_
      refine WO_seg 3 [(4, .int .u64 0), (5, .int .i64 0), (6, .int .i64 3)] (by kernel_rfl) (by kernel_rfl) ?_
      refine WO_end rfl ?_
      refine X_then ?_
      refine W_ret ?_
      refine X_then_ret ?_
      obtain rfl := Option.some.inj hr
      refine X_ret [.tmp 4, .tmp 5, .tmp 6] [.int .u64 0, .int .i64 0, .int .i64 3] rfl (ResAll.cons (ResAt.tmp (by kernel_rfl)) (ResAll.cons (ResAt.tmp (by kernel_rfl)) (ResAll.cons (ResAt.tmp (by kernel_rfl)) ResAll.nil))) ?_
      exact ⟨m1, rfl, hm, st⟩
    · intro hc
      rw [if_neg (not_true hc)] at hr
      refine W_skip ?_
      refine X_then ?_
      refine W_seq ?_
      refine W_region ?_
      refine WO_seg 2 [(7, .int .i64 p1)] (by kernel_rfl) (by kernel_rfl) ?_
      refine WO_end rfl ?_
      refine X_then ?_
      refine W_seq ?_
      refine W_block ?_
      replace hr := bindS hr
      obtain ⟨out1, hr, hrKu1⟩ := hr
      refine W_cut (.exit 0) (fun L' w' => ∃ (o2 : Int) (m2 : Mem), o2 = out1 ∧ L' = [(0, .slice a1 (List.length p0) c1), (1, .int .i64 p1), (4, .int .u64 0), (7, .int .i64 o2)] ∧ m.le m2 ∧ St m2 (own) w' ∧ RepS cU8 m2 a1 c1 p0) ?_ ?_
      · clear hr st
        rintro _ w2 ⟨o2, m2, rfl, rfl, hm, st, r1⟩
        have hr := hrKu1
        clear hrKu1
        refine X_block_eq ?_
        refine X_then ?_
        refine W_seq ?_
        refine W_seq ?_
        refine W_region ?_
        refine WO_seg 4 [(34, .bool (o2 == (List.length p0 : Int)))] (by kernel_rfl) (by kernel_rfl) ?_
        refine WO_end rfl ?_
        refine X_then ?_
        refine W_cond (o2 == (List.length p0 : Int)) (by kernel_rfl) ?_ ?_
        · intro hc
          rw [if_pos hc] at hr
          refine W_seq ?_
          refine W_region ?_
          refine WO_seg 3 [(4, .int .u64 0), (5, .int .i64 0), (6, .int .i64 7)] (by kernel_rfl) (by kernel_rfl) ?_
          refine WO_end rfl ?_
          refine X_then ?_
          refine W_ret ?_
          refine X_then_ret ?_
          obtain rfl := Option.some.inj hr
          refine X_ret [.tmp 4, .tmp 5, .tmp 6] [.int .u64 0, .int .i64 0, .int .i64 7] rfl (ResAll.cons (ResAt.tmp (by kernel_rfl)) (ResAll.cons (ResAt.tmp (by kernel_rfl)) (ResAll.cons (ResAt.tmp (by kernel_rfl)) ResAll.nil))) ?_
          exact ⟨m2, rfl, hm, st⟩
        · intro hc
          rw [if_neg (not_true hc)] at hr
          refine W_skip ?_
          refine X_then ?_
          refine W_seq ?_
          refine W_seq ?_
          refine W_region ?_
          replace hr := bindS hr
          obtain ⟨o4, hr, hrK⟩ := hr
          refine WO_cut (j := 29) (fun L' w' => ∃ (m5 : Mem), L' = [(0, .slice a1 (List.length p0) c1), (1, .int .i64 p1), (4, .int .u64 0), (7, .int .i64 o2), (63, .bool o4)] ∧ m.le m5 ∧ St m5 (own) w' ∧ RepS cU8 m5 a1 c1 p0) ?_ ?_
          · clear hr st
            have hr := hrK
            clear hrK
            rintro _ w5 ⟨m5, rfl, hm, st, r1⟩
            refine WO_end rfl ?_
            refine X_then ?_
            refine W_cond o4 (by kernel_rfl) ?_ ?_
            · intro hc
              rw [if_pos hc] at hr
              refine W_seq ?_
              refine W_region ?_
              refine WO_seg 3 [(4, .int .u64 0), (5, .int .i64 0), (6, .int .i64 6)] (by kernel_rfl) (by kernel_rfl) ?_
              refine WO_end rfl ?_
              refine X_then ?_
              refine W_ret ?_
              refine X_then_ret ?_
              obtain rfl := Option.some.inj hr
              refine X_ret [.tmp 4, .tmp 5, .tmp 6] [.int .u64 0, .int .i64 0, .int .i64 6] rfl (ResAll.cons (ResAt.tmp (by kernel_rfl)) (ResAll.cons (ResAt.tmp (by kernel_rfl)) (ResAll.cons (ResAt.tmp (by kernel_rfl)) ResAll.nil))) ?_
              exact ⟨m5, rfl, hm, st⟩
            · intro hc
              rw [if_neg (not_true hc)] at hr
              refine W_skip ?_
              refine X_then ?_
              refine W_seq ?_
              refine W_seq ?_
              refine W_region ?_
              refine WO_seg 2 [(8, .int .i64 o2)] (by kernel_rfl) (by kernel_rfl) ?_
              refine WO_end rfl ?_
              refine X_then ?_
              refine W_block ?_
              replace hr := bindS hr
              obtain ⟨out2, hr, hrKu3⟩ := hr
              refine W_cut (.exit 2) (fun L' w' => ∃ (o5 : Int) (m6 : Mem), o5 = out2 ∧ L' = [(4, .int .u64 o5), (7, .int .i64 o2)] ∧ m.le m6 ∧ St m6 (own) w') ?_ ?_
              · clear hr st
                rintro _ w6 ⟨o5, m6, rfl, rfl, hm, st⟩
                have hr := hrKu3
                clear hrKu3
                refine X_block_eq ?_
                refine X_then ?_
                refine W_seq ?_
                refine W_region ?_
                refine WO_seg 6 [(4, .int .u64 o5), (5, .int .i64 (IntKind.wrap .i64 (o2 + 1))), (6, .int .i64 0)] (by kernel_rfl) (by kernel_rfl) ?_
                refine WO_end rfl ?_
                refine X_then ?_
                refine W_ret ?_
                obtain rfl := Option.some.inj hr
                refine X_ret [.tmp 4, .tmp 5, .tmp 6] [.int .u64 o5, .int .i64 (IntKind.wrap .i64 (o2 + 1)), .int .i64 0] rfl (ResAll.cons (ResAt.tmp (by kernel_rfl)) (ResAll.cons (ResAt.tmp (by kernel_rfl)) (ResAll.cons (ResAt.tmp (by kernel_rfl)) ResAll.nil))) ?_
                exact ⟨m6, rfl, hm, st⟩
              intro K2_u3
              clear hrKu3
              refine W_env _ (by kernel_rfl) (W_loop (fun k2 L' w' => ∃ (s2 : Int × Int) (m7 : Mem), loopM (testgateref03_Uint_L2 N p0 p1) k2 s2 = some out2 ∧ L' = [(0, .slice a1 (List.length p0) c1), (1, .int .i64 p1), (4, .int .u64 s2.1), (7, .int .i64 o2), (8, .int .i64 s2.2)] ∧ m.le m7 ∧ St m7 (own) w' ∧ RepS cU8 m7 a1 c1 p0) N ⟨(0, o2), m5, hr, rfl, hm, st, r1⟩ ?_)
              clear st hr
              rintro k2 _ w7 ⟨s2, m7, hL, rfl, hm, st, r1⟩
              rcases k2 with _ | k2
              · exact loopM_zero hL
              · obtain ⟨qu3, hr, hSu3, hBu3⟩ := loopM_succ hL
                clear hL
                unfold testgateref03_Uint_L2 at hr
                refine W_seq ?_
                refine W_seq ?_
                refine W_region ?_
                refine WO_seg 3 [(67, .bool (decide (s2.2 ≥ p1)))] (by kernel_rfl) (by kernel_rfl) ?_
                refine WO_end rfl ?_
                refine X_then ?_
                refine W_cond (decide (s2.2 ≥ p1)) (by kernel_rfl) ?_ ?_
                · intro hc
                  rw [if_pos hc] at hr
                  refine W_skip ?_
                  refine X_then ?_
                  refine W_seq ?_
                  refine W_block ?_
                  refine W_region ?_
                  refine WO_seg 4 [(71, .int .u64 (IntKind.wrap .u64 (s2.1 * 128))), (72, .slice a1 (List.length p0) c1), (73, .int .i64 s2.2)] (by kernel_rfl) (by kernel_rfl) ?_
                  replace hr := bindS hr
                  obtain ⟨x5, hx5, hr⟩ := hr
                  refine WO_one rfl (One_index (d := 74) (t := 50) (e := 5) (x := (.tmp 72)) (y := (.tmp 73)) cU8 (by kernel_rfl) rfl (show evL _ _ = some (.slice a1 (List.length p0) c1) from (by kernel_rfl)) (show evL _ _ = some (.int .i64 s2.2) from (by kernel_rfl)) (by kernel_rfl) r1 hx5 ?_)
                  rintro b5 f5 cs5 rfl hq5
                  refine WO_one rfl (One_load_row (d := 75) (t := 5) (x := (.tmp 74)) (.int .u8 (x5.toNat : Int)) (by kernel_rfl) rfl (show evL _ _ = some (.pointer (some ⟨b5, f5, none⟩)) from (by kernel_rfl)) st hq5 (by kernel_rfl) ?_)
                  refine WO_seg 4 [(4, .int .u64 (IntKind.wrap .u64 ((IntKind.wrap .u64 (s2.1 * 128)) + (IntKind.wrap .u64 (Int.tmod (x5.toNat : Int) 128)))))] (by kernel_rfl) (by kernel_rfl) ?_
                  refine WO_end rfl ?_
                  refine X_block ?_
                  refine X_then ?_
                  refine W_region ?_
                  refine WO_seg 3 [(8, .int .i64 (IntKind.wrap .i64 (s2.2 - 1)))] (by kernel_rfl) (by kernel_rfl) ?_
                  refine WO_end rfl ?_
                  obtain rfl := Option.some.inj hr
                  have hL := hSu3 _ rfl
                  exact X_env _ (by kernel_rfl) (X_round k2 (Nat.lt_succ_self _) ⟨(IntKind.wrap .u64 ((IntKind.wrap .u64 (s2.1 * 128)) + (IntKind.wrap .u64 (Int.tmod (x5.toNat : Int) 128))), IntKind.wrap .i64 (s2.2 - 1)), m7, hL, rfl, hm, st, r1⟩)
                · intro hc
                  rw [if_neg (not_true hc)] at hr
                  refine W_exit ?_
                  refine X_then_exit ?_
                  obtain rfl := Option.some.inj hr
                  have ho := hBu3 _ rfl
                  refine X_then_exit ?_
                  exact X_env _ (by kernel_rfl) (K2_u3 _ _ ⟨s2.1, m7, ho, rfl, hm, st⟩)
          · intro K
            clear hrK
            refine WO_seg 5 [(39, .bool (decide ((IntKind.wrap .i64 (o2 - p1)) ≥ 10)))] (by kernel_rfl) (by kernel_rfl) ?_
            rcases bcases (decide ((IntKind.wrap .i64 (o2 - p1)) ≥ 10)) with hc | hc
            · rw [if_pos hc] at hr
              refine WO_fact (t := 39) (b := true) (decide ((IntKind.wrap .i64 (o2 - p1)) ≥ 10)) (by kernel_rfl) hc ?_
              refine WO_seg 24 [(63, .bool true)] (by kernel_rfl) (by kernel_rfl) ?_
              obtain rfl := Option.some.inj hr
              exact WO_env _ (by kernel_rfl) (K _ _ ⟨m2, rfl, hm, st, r1⟩)
            · rw [if_neg (not_true hc)] at hr
              refine WO_fact (t := 39) (b := false) (decide ((IntKind.wrap .i64 (o2 - p1)) ≥ 10)) (by kernel_rfl) hc ?_
              refine WO_seg 5 [(44, .bool ((IntKind.wrap .i64 (o2 - p1)) == 9))] (by kernel_rfl) (by kernel_rfl) ?_
              rcases bcases ((IntKind.wrap .i64 (o2 - p1)) == 9) with hc | hc
              · rw [if_pos hc] at hr
                refine WO_fact (t := 44) (b := true) ((IntKind.wrap .i64 (o2 - p1)) == 9) (by kernel_rfl) hc ?_
                refine WO_seg 2 [(45, .slice a1 (List.length p0) c1), (46, .int .i64 o2)] (by kernel_rfl) (by kernel_rfl) ?_
                replace hr := bindS hr
                obtain ⟨x2, hx2, hr⟩ := hr
                refine WO_one rfl (One_index (d := 47) (t := 50) (e := 5) (x := (.tmp 45)) (y := (.tmp 46)) cU8 (by kernel_rfl) rfl (show evL _ _ = some (.slice a1 (List.length p0) c1) from (by kernel_rfl)) (show evL _ _ = some (.int .i64 o2) from (by kernel_rfl)) (by kernel_rfl) r1 hx2 ?_)
                rintro b2 f2 cs2 rfl hq2
                refine WO_one rfl (One_load_row (d := 48) (t := 5) (x := (.tmp 47)) (.int .u8 (x2.toNat : Int)) (by kernel_rfl) rfl (show evL _ _ = some (.pointer (some ⟨b2, f2, none⟩)) from (by kernel_rfl)) st hq2 (by kernel_rfl) ?_)
                refine WO_seg 4 [(52, .bool (decide ((x2.toNat : Int) > 1)))] (by kernel_rfl) (by kernel_rfl) ?_
                rcases bcases (decide ((x2.toNat : Int) > 1)) with hc | hc
                · rw [if_pos hc] at hr
                  refine WO_fact (t := 52) (b := true) (decide ((x2.toNat : Int) > 1)) (by kernel_rfl) hc ?_
                  refine WO_seg 11 [(63, .bool true)] (by kernel_rfl) (by kernel_rfl) ?_
                  obtain rfl := Option.some.inj hr
                  exact WO_env _ (by kernel_rfl) (K _ _ ⟨m2, rfl, hm, st, r1⟩)
                · rw [if_neg (not_true hc)] at hr
                  refine WO_fact (t := 52) (b := false) (decide ((x2.toNat : Int) > 1)) (by kernel_rfl) hc ?_
                  refine WO_seg 4 [(56, .bool (decide (o2 > p1)))] (by kernel_rfl) (by kernel_rfl) ?_
                  rcases bcases (decide (o2 > p1)) with hc | hc
                  · rw [if_pos hc] at hr
                    refine WO_fact (t := 56) (b := true) (decide (o2 > p1)) (by kernel_rfl) hc ?_
                    refine WO_seg 2 [(57, .slice a1 (List.length p0) c1), (58, .int .i64 o2)] (by kernel_rfl) (by kernel_rfl) ?_
                    replace hr := bindS hr
                    obtain ⟨x3, hx3, hr⟩ := hr
                    refine WO_one rfl (One_index (d := 59) (t := 50) (e := 5) (x := (.tmp 57)) (y := (.tmp 58)) cU8 (by kernel_rfl) rfl (show evL _ _ = some (.slice a1 (List.length p0) c1) from (by kernel_rfl)) (show evL _ _ = some (.int .i64 o2) from (by kernel_rfl)) (by kernel_rfl) r1 hx3 ?_)
                    rintro b3 f3 cs3 rfl hq3
                    refine WO_one rfl (One_load_row (d := 60) (t := 5) (x := (.tmp 59)) (.int .u8 (x3.toNat : Int)) (by kernel_rfl) rfl (show evL _ _ = some (.pointer (some ⟨b3, f3, none⟩)) from (by kernel_rfl)) st hq3 (by kernel_rfl) ?_)
                    refine WO_seg 3 [(63, .bool ((x3.toNat : Int) == 0))] (by kernel_rfl) (by kernel_rfl) ?_
                    obtain rfl := Option.some.inj hr
                    exact WO_env _ (by kernel_rfl) (K _ _ ⟨m2, rfl, hm, st, r1⟩)
                  · rw [if_neg (not_true hc)] at hr
                    refine WO_fact (t := 56) (b := false) (decide (o2 > p1)) (by kernel_rfl) hc ?_
                    refine WO_seg 7 [(63, .bool false)] (by kernel_rfl) (by kernel_rfl) ?_
                    obtain rfl := Option.some.inj hr
                    exact WO_env _ (by kernel_rfl) (K _ _ ⟨m2, rfl, hm, st, r1⟩)
              · rw [if_neg (not_true hc)] at hr
                refine WO_fact (t := 44) (b := false) ((IntKind.wrap .i64 (o2 - p1)) == 9) (by kernel_rfl) hc ?_
                refine WO_seg 12 [(52, .bool false), (56, .bool (decide (o2 > p1)))] (by kernel_rfl) (by kernel_rfl) ?_
                rcases bcases (decide (o2 > p1)) with hc | hc
                · rw [if_pos hc] at hr
                  refine WO_fact (t := 56) (b := true) (decide (o2 > p1)) (by kernel_rfl) hc ?_
                  refine WO_seg 2 [(57, .slice a1 (List.length p0) c1), (58, .int .i64 o2)] (by kernel_rfl) (by kernel_rfl) ?_
                  replace hr := bindS hr
                  obtain ⟨x4, hx4, hr⟩ := hr
                  refine WO_one rfl (One_index (d := 59) (t := 50) (e := 5) (x := (.tmp 57)) (y := (.tmp 58)) cU8 (by kernel_rfl) rfl (show evL _ _ = some (.slice a1 (List.length p0) c1) from (by kernel_rfl)) (show evL _ _ = some (.int .i64 o2) from (by kernel_rfl)) (by kernel_rfl) r1 hx4 ?_)
                  rintro b4 f4 cs4 rfl hq4
                  refine WO_one rfl (One_load_row (d := 60) (t := 5) (x := (.tmp 59)) (.int .u8 (x4.toNat : Int)) (by kernel_rfl) rfl (show evL _ _ = some (.pointer (some ⟨b4, f4, none⟩)) from (by kernel_rfl)) st hq4 (by kernel_rfl) ?_)
                  refine WO_seg 3 [(63, .bool ((x4.toNat : Int) == 0))] (by kernel_rfl) (by kernel_rfl) ?_
                  obtain rfl := Option.some.inj hr
                  exact WO_env _ (by kernel_rfl) (K _ _ ⟨m2, rfl, hm, st, r1⟩)
                · rw [if_neg (not_true hc)] at hr
                  refine WO_fact (t := 56) (b := false) (decide (o2 > p1)) (by kernel_rfl) hc ?_
                  refine WO_seg 7 [(63, .bool false)] (by kernel_rfl) (by kernel_rfl) ?_
                  obtain rfl := Option.some.inj hr
                  exact WO_env _ (by kernel_rfl) (K _ _ ⟨m2, rfl, hm, st, r1⟩)
      intro K0_u1
      clear hrKu1
      refine W_env _ (by kernel_rfl) (W_loop (fun k1 L' w' => ∃ (s1 : Int) (m3 : Mem), loopM (testgateref03_Uint_L1 N p0) k1 s1 = some out1 ∧ L' = [(0, .slice a1 (List.length p0) c1), (1, .int .i64 p1), (4, .int .u64 0), (7, .int .i64 s1)] ∧ m.le m3 ∧ St m3 (own) w' ∧ RepS cU8 m3 a1 c1 p0) N ⟨p1, m1, hr, rfl, hm, st, r1⟩ ?_)
      clear st hr
      rintro k1 _ w3 ⟨s1, m3, hL, rfl, hm, st, r1⟩
      rcases k1 with _ | k1
      · exact loopM_zero hL
      · obtain ⟨qu1, hr, hSu1, hBu1⟩ := loopM_succ hL
        clear hL
        unfold testgateref03_Uint_L1 at hr
        refine W_seq ?_
        refine W_seq ?_
        refine W_region ?_
        replace hr := bindS hr
        obtain ⟨o3, hr, hrK⟩ := hr
        refine WO_cut (j := 11) (fun L' w' => ∃ (m4 : Mem), L' = [(0, .slice a1 (List.length p0) c1), (1, .int .i64 p1), (4, .int .u64 0), (7, .int .i64 s1), (28, .bool o3)] ∧ m.le m4 ∧ St m4 (own) w' ∧ RepS cU8 m4 a1 c1 p0) ?_ ?_
        · clear hr st
          have hr := hrK
          clear hrK
          rintro _ w4 ⟨m4, rfl, hm, st, r1⟩
          refine WO_end rfl ?_
          refine X_then ?_
          refine W_cond o3 (by kernel_rfl) ?_ ?_
          · intro hc
            rw [if_pos hc] at hr
            refine W_skip ?_
            refine X_then ?_
            refine W_block ?_
            refine W_region ?_
            refine WO_seg 3 [(7, .int .i64 (IntKind.wrap .i64 (s1 + 1)))] (by kernel_rfl) (by kernel_rfl) ?_
            refine WO_end rfl ?_
            refine X_block ?_
            obtain rfl := Option.some.inj hr
            have hL := hSu1 _ rfl
            exact X_env _ (by kernel_rfl) (X_round k1 (Nat.lt_succ_self _) ⟨IntKind.wrap .i64 (s1 + 1), m4, hL, rfl, hm, st, r1⟩)
          · intro hc
            rw [if_neg (not_true hc)] at hr
            refine W_exit ?_
            refine X_then_exit ?_
            obtain rfl := Option.some.inj hr
            have ho := hBu1 _ rfl
            refine X_then_exit ?_
            exact X_env _ (by kernel_rfl) (K0_u1 _ _ ⟨s1, m4, ho, rfl, hm, st, r1⟩)
        · intro K
          clear hrK
          refine WO_seg 5 [(22, .bool (decide (s1 < (List.length p0 : Int))))] (by kernel_rfl) (by kernel_rfl) ?_
          rcases bcases (decide (s1 < (List.length p0 : Int))) with hc | hc
          · rw [if_pos hc] at hr
            refine WO_fact (t := 22) (b := true) (decide (s1 < (List.length p0 : Int))) (by kernel_rfl) hc ?_
            refine WO_seg 2 [(23, .slice a1 (List.length p0) c1), (24, .int .i64 s1)] (by kernel_rfl) (by kernel_rfl) ?_
            replace hr := bindS hr
            obtain ⟨x1, hx1, hr⟩ := hr
            refine WO_one rfl (One_index (d := 25) (t := 50) (e := 5) (x := (.tmp 23)) (y := (.tmp 24)) cU8 (by kernel_rfl) rfl (show evL _ _ = some (.slice a1 (List.length p0) c1) from (by kernel_rfl)) (show evL _ _ = some (.int .i64 s1) from (by kernel_rfl)) (by kernel_rfl) r1 hx1 ?_)
            rintro b1 f1 cs1 rfl hq1
            refine WO_one rfl (One_load_row (d := 26) (t := 5) (x := (.tmp 25)) (.int .u8 (x1.toNat : Int)) (by kernel_rfl) rfl (show evL _ _ = some (.pointer (some ⟨b1, f1, none⟩)) from (by kernel_rfl)) st hq1 (by kernel_rfl) ?_)
            refine WO_seg 2 [(28, .bool (decide ((x1.toNat : Int) ≥ 128)))] (by kernel_rfl) (by kernel_rfl) ?_
            obtain rfl := Option.some.inj hr
            exact WO_env _ (by kernel_rfl) (K _ _ ⟨m3, rfl, hm, st, r1⟩)
          · rw [if_neg (not_true hc)] at hr
            refine WO_fact (t := 22) (b := false) (decide (s1 < (List.length p0 : Int))) (by kernel_rfl) hc ?_
            refine WO_seg 6 [(28, .bool false)] (by kernel_rfl) (by kernel_rfl) ?_
            obtain rfl := Option.some.inj hr
            exact WO_env _ (by kernel_rfl) (K _ _ ⟨m3, rfl, hm, st, r1⟩)
  · intro K
    clear hrK
    refine WO_seg 3 [(11, .bool (decide (p1 < 0)))] (by kernel_rfl) (by kernel_rfl) ?_
    rcases bcases (decide (p1 < 0)) with hc | hc
    · rw [if_pos hc] at hr
      refine WO_fact (t := 11) (b := true) (decide (p1 < 0)) (by kernel_rfl) hc ?_
      refine WO_seg 5 [(16, .bool true)] (by kernel_rfl) (by kernel_rfl) ?_
      obtain rfl := Option.some.inj hr
      exact WO_env _ (by kernel_rfl) (K _ _ ⟨m, rfl, hm, st, r1⟩)
    · rw [if_neg (not_true hc)] at hr
      refine WO_fact (t := 11) (b := false) (decide (p1 < 0)) (by kernel_rfl) hc ?_
      refine WO_seg 5 [(16, .bool (decide (p1 > (List.length p0 : Int))))] (by kernel_rfl) (by kernel_rfl) ?_
      obtain rfl := Option.some.inj hr
      exact WO_env _ (by kernel_rfl) (K _ _ ⟨m, rfl, hm, st, r1⟩)

end Go.Proofs.Ytgkjigejejofkaa
