/- MADE BY gen.py: plain functions and the proofs that the Go functions compute them. No condition but those of each theorem. -/
import Derived.Test.YtgkjigejejofkaaProg
import Derived.Test.YtgkjigejejofkaaMap
import Derived.Test.YtgkjigejejofkaaTConq9C
namespace Go.Proofs.Ytgkjigejejofkaa
open Go Go.Dc

def testgatelaw13_ContentsCalls_L2 (N : Nat) (p2 : ByteArray) (x1 : List ByteArray) (s2 : Int) : Option ((Int) ⊕ ((Unit) ⊕ (Bool))) :=
  if (decide (s2 < (List.length ([(⟨#[97]⟩ : ByteArray), (⟨#[]⟩ : ByteArray), (⟨#[97, 98]⟩ : ByteArray), p2]) : Int))) = true then ((idx ([(⟨#[97]⟩ : ByteArray), (⟨#[]⟩ : ByteArray), (⟨#[97, 98]⟩ : ByteArray), p2]) s2).bind fun x2 => (contents_Find N x1 x2).bind fun y6 => (testgateref13_Find N x1 x2).bind fun y7 => (contents_Put N x1 x2).bind fun y8 => (testgateref13_Put N x1 x2).bind fun y9 => (if (y6.1 != y7.1) = true then (some true) else (if (!(y6.2 == y7.2)) = true then (some true) else (if (y8.2.1 != y9.2.1) = true then (some true) else (if (y8.2.2 != y9.2.2) = true then (some true) else ((testgateref13_Same N y8.1 y9.1).bind fun y10 => some (!y10))))) : Option (Bool)).bind fun o4 => if o4 = true then (some (.inr (.inr (false)))) else (some (.inl (IntKind.wrap .i64 (s2 + 1))))) else (some (.inr (.inl ())))

def testgatelaw13_ContentsCalls_L3 (N : Nat) (p3 : Int) (x1 : List ByteArray) (s3 : Int) : Option ((Int) ⊕ ((Unit) ⊕ (Bool))) :=
  if (decide (s3 < (List.length ([0, 1, (List.length x1 : Int), (-1), p3]) : Int))) = true then ((idx ([0, 1, (List.length x1 : Int), (-1), p3]) s3).bind fun x3 => (contents_Get N x1 x3).bind fun y11 => (testgateref13_Get N x1 x3).bind fun y12 => (if (!(y11.1.toList == y12.1.toList)) = true then (some true) else (some (y11.2 != y12.2)) : Option (Bool)).bind fun o6 => if o6 = true then (some (.inr (.inr (false)))) else (some (.inl (IntKind.wrap .i64 (s3 + 1))))) else (some (.inr (.inl ())))

def testgatelaw13_ContentsCalls_L4 (N : Nat) (x1 : List ByteArray) (s4 : List (Int) × Int × List (Int) × Int) : Option ((List (Int) × Int × List (Int) × Int) ⊕ ((List (Int) × List (Int) × Int))) :=
  if (decide (s4.2.1 > 0)) = true then ((testgatemake_Tape_Next N (s4.2.2.1, s4.2.2.2) (IntKind.wrap .i64 ((List.length x1 : Int) + 1))).bind fun y14 => (appendS 8 s4.1 ([y14.2])).bind fun l1 => some (.inl (l1, IntKind.wrap .i64 (s4.2.1 - 1), y14.1.1, y14.1.2))) else (some (.inr (s4.1, s4.2.2.1, s4.2.2.2)))

def testgatelaw13_ContentsCalls_L1 (N : Nat) (p2 : ByteArray) (p3 : Int) (y1 : (List Int × Int) × List ByteArray) (o1 : List (ByteArray)) (s1 : Int × List (Int) × Int) : Option ((Int × List (Int) × Int) ⊕ ((List (Int) × Int) ⊕ (Bool))) :=
  if (decide (s1.1 < (List.length ([y1.2, o1]) : Int))) = true then ((idx ([y1.2, o1]) s1.1).bind fun x1 => (contents_Check N x1).bind fun y4 => (testgateref13_Check N x1).bind fun y5 => if (y4 != y5) = true then (some (.inr (.inr (false)))) else ((loopM (testgatelaw13_ContentsCalls_L2 N p2 x1) N 0).bind fun out2 => (match out2 with | .inl o3 => (loopM (testgatelaw13_ContentsCalls_L3 N p3 x1) N 0).bind fun out3 => (match out3 with | .inl o5 => (testgatemake_Tape_Next N (s1.2.1, s1.2.2) 6).bind fun y13 => (loopM (testgatelaw13_ContentsCalls_L4 N x1) N (([] : List (Int)), y13.2, y13.1.1, y13.1.2)).bind fun o7 => (contents_Keep N x1 o7.1).bind fun y15 => (testgateref13_Keep N x1 o7.1).bind fun y16 => (if (y15.2.2 != y16.2.2) = true then (some true) else ((testgateref13_Same N y15.1 y16.1).bind fun y17 => if (!y17) = true then (some true) else ((testgatemake_SameInts N y15.2.1 y16.2.1).bind fun y18 => some (!y18))) : Option (Bool)).bind fun o8 => if o8 = true then (some (.inr (.inr (false)))) else (some (.inl (IntKind.wrap .i64 (s1.1 + 1), o7.2.1, o7.2.2))) | .inr (z) => some (.inr (.inr (z)))) | .inr (z) => some (.inr (.inr (z)))))) else (some (.inr (.inl (s1.2.1, s1.2.2))))

def testgatelaw13_ContentsCalls (N : Nat) (p0 : List Int) (p1 : List ByteArray) (p2 : ByteArray) (p3 : Int) : Option (Bool) :=
  (testgatelaw13_store N (p0, 0)).bind fun y1 => (testgatelaw13_store N (y1.1.1, y1.1.2)).bind fun y2 => (testgatemake_Tape_Chance N (y2.1.1, y2.1.2) 1 5).bind fun y3 => (if y3.2 = true then (some p1) else (some y2.2) : Option (List (ByteArray))).bind fun o1 => (loopM (testgatelaw13_ContentsCalls_L1 N p2 p3 y1 o1) N (0, y3.1.1, y3.1.2)).bind fun out1 => (match out1 with | .inl o2 => (contents_Merge N y1.2 o1).bind fun y19 => (testgateref13_Merge N y1.2 o1).bind fun y20 => (if (y19.2.2 == y20.2.2) = true then ((testgateref13_Same N y19.1 y20.1).bind fun y21 => if y21 = true then ((testgatemake_SameInts N y19.2.1 y20.2.1).bind fun y22 => if y22 = true then ((testgatelaw13_awake N).bind fun y23 => some y23) else (some false)) else (some false)) else (some false) : Option (Bool)).bind fun o9 => some o9 | .inr (z) => some z)

set_option maxHeartbeats 4000000 in
set_option maxRecDepth 100000 in
theorem testgatelaw13_ContentsCalls_ok {N : Nat} {m : Mem} {own : List Piece} {w : World} {p0 : List Int} {p1 : List ByteArray} {p2 : ByteArray} {p3 : Int} {a1 : Option Addr} {c1 : Nat} {a2 : Option Addr} {c2 : Nat} {r : Bool} (st : St m (own) w) (r1 : RepS (cInt .i64) m a1 c1 p0) (r2 : RepS cStr m a2 c2 p1) (hr : testgatelaw13_ContentsCalls N p0 p1 p2 p3 = some r) : Calls Go.Proofs.Try.prog 4 #[.slice a1 (List.length p0) c1, .agg #[.slice a2 (List.length p1) c2], .string p2, .int .i64 p3] w fun e w' => ∃ (m' : Mem), e = .returned (.bool r) ∧ m.le m' ∧ St m' (own) w' := by
  unfold testgatelaw13_ContentsCalls at hr
  have hm := m.le_refl
  refine W_calls Go.Proofs.Try.func4 rfl Go.Proofs.Try.ntmps4 [(0, .slice a1 (List.length p0) c1), (1, .agg #[.slice a2 (List.length p1) c2]), (2, .string p2), (3, .int .i64 p3)] (by kernel_rfl) rfl ?_
  refine W_seq ?_
  refine W_region ?_
  refine WO_one rfl (One_box (d := 5) (e := 24) (x := (.tmp 1)) (.agg #[.slice a2 (List.length p1) c2]) (by kernel_rfl) rfl (by kernel_rfl) st ?_)
  clear st
  intro b1 m1 w1 hle1 st hb1
  have hm := Mem.le_trans hm hle1
  have r1 := r1.mono hle1
  have r2 := r2.mono hle1
  refine WO_seg 1 [] (by kernel_rfl) (by kernel_rfl) ?_
  refine WO_end rfl ?_
  refine X_then ?_
  refine W_seq ?_
  refine W_region ?_
  refine WO_seg 2 [(47, .agg #[.slice a1 (List.length p0) c1, .int .i64 0])] (by kernel_rfl) (by kernel_rfl) ?_
  refine WO_one rfl (One_box_own (d := 48) (e := 35) (x := (.tmp 47)) (.agg #[.slice a1 (List.length p0) c1, .int .i64 0]) (by kernel_rfl) rfl (by kernel_rfl) st ?_)
  clear st
  intro b2 w2 st
  refine WO_seg 1 [(9, .pointer (some ⟨b2, 0, none⟩))] (by kernel_rfl) (by kernel_rfl) ?_
  refine WO_end rfl ?_
  refine X_then ?_
  refine W_seq ?_
  refine W_region ?_
  refine WO_seg 1 [(49, .pointer (some ⟨b2, 0, none⟩))] (by kernel_rfl) (by kernel_rfl) ?_
  replace hr := bindS hr
  obtain ⟨y1, hx1, hr⟩ := hr
  refine WO_one rfl (One_fn 50 16 #[.pointer (some ⟨b2, 0, none⟩)] (by kernel_rfl) rfl ?_)
  refine (testgatelaw13_store_ok st r1 hx1).mono ?_
  clear st
  rintro _ w3 ⟨a3, c3, a4, c4, m3, rfl, hle3, st, r3, r4⟩
  refine ⟨_, rfl, ?_⟩
  have hm := Mem.le_trans hm hle3
  have hb1 := hb1.mono hle3
  have r2 := r2.mono hle3
  have r1 := r1.mono hle3
  refine WO_seg 1 [(51, .pointer (some ⟨b2, 0, none⟩))] (by kernel_rfl) (by kernel_rfl) ?_
  have st := st.front1
  replace hr := bindS hr
  obtain ⟨y2, hx2, hr⟩ := hr
  refine WO_one rfl (One_fn 52 16 #[.pointer (some ⟨b2, 0, none⟩)] (by kernel_rfl) rfl ?_)
  refine (testgatelaw13_store_ok st r3 hx2).mono ?_
  clear st
  rintro _ w4 ⟨a5, c5, a6, c6, m4, rfl, hle4, st, r5, r6⟩
  refine ⟨_, rfl, ?_⟩
  have hm := Mem.le_trans hm hle4
  have hb1 := hb1.mono hle4
  have r2 := r2.mono hle4
  have r4 := r4.mono hle4
  have r3 := r3.mono hle4
  refine WO_one rfl (One_alloc (d := 10) (e := 24) (.agg #[.slice none 0 0]) (by kernel_rfl) rfl (by kernel_rfl) st ?_)
  clear st
  intro b3 w5 st
  refine WO_one rfl (One_alloc (d := 11) (e := 24) (.agg #[.slice none 0 0]) (by kernel_rfl) rfl (by kernel_rfl) st ?_)
  clear st
  intro b4 w6 st
  have st := st.front1
  refine WO_one rfl (One_store (t := 24) (x := (.tmp 10)) (y := (.tmp 50)) (v := .agg #[.slice a4 (List.length y1.2) c4]) (c' := #[.slice a4 (List.length y1.2) c4]) (by kernel_rfl) (show evL _ _ = some (.pointer (some ⟨b3, 0, none⟩)) from (by kernel_rfl)) (show evL _ _ = some (.agg #[.slice a4 (List.length y1.2) c4]) from (by kernel_rfl)) st (by kernel_rfl) (by kernel_rfl) ?_)
  clear st
  intro w7 st
  have st := st.front1
  refine WO_one rfl (One_store (t := 24) (x := (.tmp 11)) (y := (.tmp 52)) (v := .agg #[.slice a6 (List.length y2.2) c6]) (c' := #[.slice a6 (List.length y2.2) c6]) (by kernel_rfl) (show evL _ _ = some (.pointer (some ⟨b4, 0, none⟩)) from (by kernel_rfl)) (show evL _ _ = some (.agg #[.slice a6 (List.length y2.2) c6]) from (by kernel_rfl)) st (by kernel_rfl) (by kernel_rfl) ?_)
  clear st
  intro w8 st
  refine WO_end rfl ?_
  refine X_then ?_
  refine W_seq ?_
  refine W_seq ?_
  refine W_region ?_
  refine WO_seg 1 [(53, .pointer (some ⟨b2, 0, none⟩))] (by kernel_rfl) (by kernel_rfl) ?_
  have st := st.front3
  replace hr := bindS hr
  obtain ⟨y3, hx3, hr⟩ := hr
  refine WO_one rfl (One_fn 54 17 #[.pointer (some ⟨b2, 0, none⟩), .int .i64 1, .int .i64 5] (by kernel_rfl) rfl ?_)
  refine (testgatemake_Tape_Chance_ok st r5 hx3).mono ?_
  clear st
  rintro _ w9 ⟨a7, c7, m5, rfl, hle5, st, r7⟩
  refine ⟨_, rfl, ?_⟩
  have hm := Mem.le_trans hm hle5
  have hb1 := hb1.mono hle5
  have r2 := r2.mono hle5
  have r5 := r5.mono hle5
  have r6 := r6.mono hle5
  have r4 := r4.mono hle5
  refine WO_end rfl ?_
  refine X_then ?_
  replace hr := bindS hr
  obtain ⟨o1, hr, hrKu1⟩ := hr
  refine W_cut .normal (fun L' w' => ∃ (a8 : Option Addr) (c8 : Nat) (m6 : Mem), L' = [(2, .string p2), (3, .int .i64 p3), (9, .pointer (some ⟨b2, 0, none⟩)), (10, .pointer (some ⟨b3, 0, none⟩)), (11, .pointer (some ⟨b4, 0, none⟩))] ∧ m.le m6 ∧ St m6 (.blk b2 (.cells #[.slice a7 (List.length y3.1.1) c7, .int .i64 y3.1.2] 35 (0, 0)) :: .blk b4 (.cells #[.slice a8 (List.length o1) c8] 24 (0, 0)) :: .blk b3 (.cells #[.slice a4 (List.length y1.2) c4] 24 (0, 0)) :: .room a4 (List.length y1.2) c4 9 1 :: own) w' ∧ RepS (cInt .i64) m6 a7 c7 y3.1.1 ∧ RepS cStr m6 a8 c8 o1 ∧ RepS cStr m6 a4 c4 y1.2) ?_ ?_
  · clear hr st
    have hr := hrKu1
    clear hrKu1
    rintro _ w10 ⟨a8, c8, m6, rfl, hm, st, r7, r8, r4⟩
    refine X_then ?_
    refine W_seq ?_
    refine W_seq ?_
    refine W_region ?_
    refine WO_one rfl (One_load_own (d := 56) (t := 24) (x := (.tmp 10)) (.agg #[.slice a4 (List.length y1.2) c4]) (by kernel_rfl) rfl (show evL _ _ = some (.pointer (some ⟨b3, 0, none⟩)) from (by kernel_rfl)) st.tail.tail.head (by kernel_rfl) ?_)
    refine WO_one rfl (One_load_own (d := 57) (t := 24) (x := (.tmp 11)) (.agg #[.slice a8 (List.length o1) c8]) (by kernel_rfl) rfl (show evL _ _ = some (.pointer (some ⟨b4, 0, none⟩)) from (by kernel_rfl)) st.tail.head (by kernel_rfl) ?_)
    refine WO_one rfl (One_buildSlice (d := 58) (t := 38) (e := 24) (len := 2) (parts := #[(0, (.tmp 56)), (1, (.tmp 57))]) (cSl cStr) (xs := [y1.2, o1]) [.slice a4 (List.length y1.2) c4, .slice a8 (List.length o1) c8] (by kernel_rfl) rfl (fun _ => buildCells_run (by kernel_rfl) _) rfl rfl st ⟨[.slice a4 (List.length y1.2) c4], _, rfl, (cSl_mk r4), ⟨[.slice a8 (List.length o1) c8], _, rfl, (cSl_mk r8), rfl⟩⟩ ?_)
    clear st
    intro b5 m7 w12 hle6 st r9
    have hm := Mem.le_trans hm hle6
    have r4 := r4.mono hle6
    have r8 := r8.mono hle6
    have r7 := r7.mono hle6
    refine WO_seg 2 [(59, .int .i64 (List.length ([y1.2, o1]) : Int)), (60, .int .i64 0)] (by kernel_rfl) (by kernel_rfl) ?_
    refine WO_end rfl ?_
    refine X_then ?_
    refine W_block ?_
    replace hr := bindS hr
    obtain ⟨out1, hr, hrKu2⟩ := hr
    refine W_cut (.exit 0) (fun L' w' => ∃ (o2 : List (Int) × Int) (a9 : Option Addr) (c9 : Nat) (m8 : Mem), (.inl o2) = out1 ∧ L' = [(10, .pointer (some ⟨b3, 0, none⟩)), (11, .pointer (some ⟨b4, 0, none⟩))] ∧ m.le m8 ∧ St m8 (.blk b2 (.cells #[.slice a9 (List.length o2.1) c9, .int .i64 o2.2] 35 (0, 0)) :: .blk b4 (.cells #[.slice a8 (List.length o1) c8] 24 (0, 0)) :: .blk b3 (.cells #[.slice a4 (List.length y1.2) c4] 24 (0, 0)) :: .room (some ⟨b5, 0, none⟩) (List.length ([y1.2, o1])) 2 24 1 :: .room a4 (List.length y1.2) c4 9 1 :: own) w' ∧ RepS (cInt .i64) m8 a9 c9 o2.1 ∧ RepS cStr m8 a8 c8 o1 ∧ RepS cStr m8 a4 c4 y1.2) ?_ ?_
    · clear hr st
      rintro _ w13 ⟨o2, a9, c9, m8, rfl, rfl, hm, st, r10, r8, r4⟩
      have hr := hrKu2
      clear hrKu2
      dsimp only at hr
      refine X_block_eq ?_
      refine X_then ?_
      refine W_seq ?_
      refine W_region ?_
      refine WO_one rfl (One_load_own (d := 204) (t := 24) (x := (.tmp 10)) (.agg #[.slice a4 (List.length y1.2) c4]) (by kernel_rfl) rfl (show evL _ _ = some (.pointer (some ⟨b3, 0, none⟩)) from (by kernel_rfl)) st.tail.tail.head (by kernel_rfl) ?_)
      refine WO_one rfl (One_load_own (d := 205) (t := 24) (x := (.tmp 11)) (.agg #[.slice a8 (List.length o1) c8]) (by kernel_rfl) rfl (show evL _ _ = some (.pointer (some ⟨b4, 0, none⟩)) from (by kernel_rfl)) st.tail.head (by kernel_rfl) ?_)
      replace hr := bindS hr
      obtain ⟨y19, hx23, hr⟩ := hr
      refine WO_one rfl (One_fn 206 29 #[.agg #[.slice a4 (List.length y1.2) c4], .agg #[.slice a8 (List.length o1) c8]] (by kernel_rfl) rfl ?_)
      refine (contents_Merge_ok st r4 r8 hx23).mono ?_
      clear st
      rintro _ w54 ⟨a25, c25, a26, c26, m38, rfl, hle26, st, r29, r30⟩
      refine ⟨_, rfl, ?_⟩
      have hm := Mem.le_trans hm hle26
      have r4 := r4.mono hle26
      have r8 := r8.mono hle26
      have r10 := r10.mono hle26
      refine WO_seg 4 [(207, .agg #[.slice a25 (List.length y19.1) c25]), (208, .slice a26 (List.length y19.2.1) c26), (209, .int .i64 y19.2.2)] (by kernel_rfl) (by kernel_rfl) ?_
      refine WO_one rfl (One_alloc (d := 40) (e := 24) (.agg #[.slice none 0 0]) (by kernel_rfl) rfl (by kernel_rfl) st ?_)
      clear st
      intro b17 w55 st
      refine WO_one rfl (One_store (t := 24) (x := (.tmp 40)) (y := (.tmp 207)) (v := .agg #[.slice a25 (List.length y19.1) c25]) (c' := #[.slice a25 (List.length y19.1) c25]) (by kernel_rfl) (show evL _ _ = some (.pointer (some ⟨b17, 0, none⟩)) from (by kernel_rfl)) (show evL _ _ = some (.agg #[.slice a25 (List.length y19.1) c25]) from (by kernel_rfl)) st (by kernel_rfl) (by kernel_rfl) ?_)
      clear st
      intro w56 st
      refine WO_seg 2 [(41, .slice a26 (List.length y19.2.1) c26), (42, .int .i64 y19.2.2)] (by kernel_rfl) (by kernel_rfl) ?_
      refine WO_end rfl ?_
      have st := st.front6
      have st := st.tail
      refine X_then ?_
      refine W_seq ?_
      refine W_region ?_
      refine WO_one rfl (One_load_own (d := 211) (t := 24) (x := (.tmp 10)) (.agg #[.slice a4 (List.length y1.2) c4]) (by kernel_rfl) rfl (show evL _ _ = some (.pointer (some ⟨b3, 0, none⟩)) from (by kernel_rfl)) st.tail.tail.tail.tail.tail.head (by kernel_rfl) ?_)
      refine WO_one rfl (One_load_own (d := 212) (t := 24) (x := (.tmp 11)) (.agg #[.slice a8 (List.length o1) c8]) (by kernel_rfl) rfl (show evL _ _ = some (.pointer (some ⟨b4, 0, none⟩)) from (by kernel_rfl)) st.tail.tail.tail.tail.head (by kernel_rfl) ?_)
      replace hr := bindS hr
      obtain ⟨y20, hx24, hr⟩ := hr
      refine WO_one rfl (One_fn 213 30 #[.agg #[.slice a4 (List.length y1.2) c4], .agg #[.slice a8 (List.length o1) c8]] (by kernel_rfl) rfl ?_)
      refine (testgateref13_Merge_ok st r4 r8 hx24).mono ?_
      clear st
      rintro _ w57 ⟨a27, c27, a28, c28, m39, rfl, hle27, st, r31, r32⟩
      refine ⟨_, rfl, ?_⟩
      have hm := Mem.le_trans hm hle27
      have r30 := r30.mono hle27
      have r4 := r4.mono hle27
      have r8 := r8.mono hle27
      have r29 := r29.mono hle27
      have r10 := r10.mono hle27
      refine WO_seg 4 [(214, .agg #[.slice a27 (List.length y20.1) c27]), (215, .slice a28 (List.length y20.2.1) c28), (216, .int .i64 y20.2.2)] (by kernel_rfl) (by kernel_rfl) ?_
      refine WO_one rfl (One_alloc (d := 43) (e := 24) (.agg #[.slice none 0 0]) (by kernel_rfl) rfl (by kernel_rfl) st ?_)
      clear st
      intro b18 w58 st
      refine WO_one rfl (One_store (t := 24) (x := (.tmp 43)) (y := (.tmp 214)) (v := .agg #[.slice a27 (List.length y20.1) c27]) (c' := #[.slice a27 (List.length y20.1) c27]) (by kernel_rfl) (show evL _ _ = some (.pointer (some ⟨b18, 0, none⟩)) from (by kernel_rfl)) (show evL _ _ = some (.agg #[.slice a27 (List.length y20.1) c27]) from (by kernel_rfl)) st (by kernel_rfl) (by kernel_rfl) ?_)
      clear st
      intro w59 st
      refine WO_seg 2 [(44, .slice a28 (List.length y20.2.1) c28), (45, .int .i64 y20.2.2)] (by kernel_rfl) (by kernel_rfl) ?_
      refine WO_end rfl ?_
      refine X_then ?_
      refine W_seq ?_
      refine W_region ?_
      replace hr := bindS hr
      obtain ⟨o9, hr, hrK⟩ := hr
      refine WO_cut (j := 17) (fun L' w' => ∃ (m40 : Mem), L' = [(8, .bool o9)] ∧ m.le m40 ∧ St m40 (.blk b18 (.cells #[.slice a27 (List.length y20.1) c27] 24 (0, 0)) :: .blk b17 (.cells #[.slice a25 (List.length y19.1) c25] 24 (0, 0)) :: .blk b2 (.cells #[.slice a9 (List.length o2.1) c9, .int .i64 o2.2] 35 (0, 0)) :: .blk b4 (.cells #[.slice a8 (List.length o1) c8] 24 (0, 0)) :: .blk b3 (.cells #[.slice a4 (List.length y1.2) c4] 24 (0, 0)) :: .room a27 (List.length y20.1) c27 9 1 :: .room a28 (List.length y20.2.1) c28 3 1 :: .room a25 (List.length y19.1) c25 9 1 :: .room a26 (List.length y19.2.1) c26 3 1 :: .room a4 (List.length y1.2) c4 9 1 :: own) w' ∧ RepS cStr m40 a27 c27 y20.1 ∧ RepS cStr m40 a25 c25 y19.1 ∧ RepS (cInt .i64) m40 a9 c9 o2.1 ∧ RepS cStr m40 a8 c8 o1 ∧ RepS cStr m40 a4 c4 y1.2) ?_ ?_
      · clear hr st
        have hr := hrK
        clear hrK
        rintro _ w60 ⟨m40, rfl, hm, st, r31, r29, r10, r8, r4⟩
        refine WO_end rfl ?_
        refine X_then ?_
        refine W_ret ?_
        obtain rfl := Option.some.inj hr
        refine X_ret [.tmp 8] [.bool o9] rfl (ResAll.cons (ResAt.tmp (by kernel_rfl)) ResAll.nil) ?_
        have st := st.tail
        have st := st.tail
        have st := st.tail
        have st := st.tail
        have st := st.tail
        have st := st.tail
        have st := st.tail
        have st := st.tail
        have st := st.tail
        have st := st.tail
        exact ⟨m40, rfl, hm, st⟩
      · intro K
        clear hrK
        refine WO_seg 4 [(220, .bool (y19.2.2 == y20.2.2))] (by kernel_rfl) (by kernel_rfl) ?_
        rcases bcases (y19.2.2 == y20.2.2) with hc | hc
        · rw [if_pos hc] at hr
          refine WO_fact (t := 220) (b := true) (y19.2.2 == y20.2.2) (by kernel_rfl) hc ?_
          refine WO_one rfl (One_load_own (d := 221) (t := 24) (x := (.tmp 40)) (.agg #[.slice a25 (List.length y19.1) c25]) (by kernel_rfl) rfl (show evL _ _ = some (.pointer (some ⟨b17, 0, none⟩)) from (by kernel_rfl)) st.tail.tail.tail.head (by kernel_rfl) ?_)
          refine WO_one rfl (One_load_own (d := 222) (t := 24) (x := (.tmp 43)) (.agg #[.slice a27 (List.length y20.1) c27]) (by kernel_rfl) rfl (show evL _ _ = some (.pointer (some ⟨b18, 0, none⟩)) from (by kernel_rfl)) st.head (by kernel_rfl) ?_)
          replace hr := bindS hr
          obtain ⟨y21, hx25, hr⟩ := hr
          refine WO_one rfl (One_fn 223 22 #[.agg #[.slice a25 (List.length y19.1) c25], .agg #[.slice a27 (List.length y20.1) c27]] (by kernel_rfl) rfl ?_)
          refine (testgateref13_Same_ok st r29 r31 hx25).mono ?_
          clear st
          rintro _ w61 ⟨m41, rfl, hle28, st⟩
          refine ⟨_, rfl, ?_⟩
          have hm := Mem.le_trans hm hle28
          have r30 := r30.mono hle28
          have r32 := r32.mono hle28
          have r29 := r29.mono hle28
          have r31 := r31.mono hle28
          have r10 := r10.mono hle28
          have r8 := r8.mono hle28
          have r4 := r4.mono hle28
          refine WO_seg 2 [(225, .bool y21)] (by kernel_rfl) (by kernel_rfl) ?_
          rcases bcases y21 with hc | hc
          · rw [if_pos hc] at hr
            refine WO_fact (t := 225) (b := true) y21 (by kernel_rfl) hc ?_
            refine WO_seg 2 [(226, .slice a26 (List.length y19.2.1) c26), (227, .slice a28 (List.length y20.2.1) c28)] (by kernel_rfl) (by kernel_rfl) ?_
            replace hr := bindS hr
            obtain ⟨y22, hx26, hr⟩ := hr
            refine WO_one rfl (One_fn 228 28 #[.slice a26 (List.length y19.2.1) c26, .slice a28 (List.length y20.2.1) c28] (by kernel_rfl) rfl ?_)
            refine (testgatemake_SameInts_ok st r30 r32 hx26).mono ?_
            clear st
            rintro _ w62 ⟨m42, rfl, hle29, st⟩
            refine ⟨_, rfl, ?_⟩
            have hm := Mem.le_trans hm hle29
            have r30 := r30.mono hle29
            have r32 := r32.mono hle29
            have r29 := r29.mono hle29
            have r31 := r31.mono hle29
            have r10 := r10.mono hle29
            have r8 := r8.mono hle29
            have r4 := r4.mono hle29
            refine WO_seg 2 [(230, .bool y22)] (by kernel_rfl) (by kernel_rfl) ?_
            rcases bcases y22 with hc | hc
            · rw [if_pos hc] at hr
              refine WO_fact (t := 230) (b := true) y22 (by kernel_rfl) hc ?_
              replace hr := bindS hr
              obtain ⟨y23, hx27, hr⟩ := hr
              refine WO_one rfl (One_fn 231 15 #[] (by kernel_rfl) rfl ?_)
              refine (testgatelaw13_awake_ok st hx27).mono ?_
              clear st
              rintro _ w63 ⟨m43, rfl, hle30, st⟩
              refine ⟨_, rfl, ?_⟩
              have hm := Mem.le_trans hm hle30
              have r30 := r30.mono hle30
              have r32 := r32.mono hle30
              have r29 := r29.mono hle30
              have r31 := r31.mono hle30
              have r10 := r10.mono hle30
              have r8 := r8.mono hle30
              have r4 := r4.mono hle30
              refine WO_seg 2 [(8, .bool y23)] (by kernel_rfl) (by kernel_rfl) ?_
              obtain rfl := Option.some.inj hr
              have st := st.front9
              have st := st.front6
              have st := st.front6
              have st := st.front5
              have st := st.front5
              have st := st.front9
              have st := st.front9
              have st := st.front9
              have st := st.front9
              have st := st.front9
              exact WO_env _ (by kernel_rfl) (K _ _ ⟨m43, rfl, hm, st, r31, r29, r10, r8, r4⟩)
            · rw [if_neg (not_true hc)] at hr
              refine WO_fact (t := 230) (b := false) y22 (by kernel_rfl) hc ?_
              refine WO_seg 3 [(8, .bool false)] (by kernel_rfl) (by kernel_rfl) ?_
              obtain rfl := Option.some.inj hr
              have st := st.front9
              have st := st.front6
              have st := st.front6
              have st := st.front5
              have st := st.front5
              have st := st.front9
              have st := st.front9
              have st := st.front9
              have st := st.front9
              have st := st.front9
              exact WO_env _ (by kernel_rfl) (K _ _ ⟨m42, rfl, hm, st, r31, r29, r10, r8, r4⟩)
          · rw [if_neg (not_true hc)] at hr
            refine WO_fact (t := 225) (b := false) y21 (by kernel_rfl) hc ?_
            refine WO_seg 8 [(8, .bool false)] (by kernel_rfl) (by kernel_rfl) ?_
            obtain rfl := Option.some.inj hr
            have st := st.front9
            have st := st.front6
            have st := st.front6
            have st := st.front5
            have st := st.front5
            have st := st.front9
            have st := st.front9
            have st := st.front9
            have st := st.front9
            have st := st.front9
            exact WO_env _ (by kernel_rfl) (K _ _ ⟨m41, rfl, hm, st, r31, r29, r10, r8, r4⟩)
        · rw [if_neg (not_true hc)] at hr
          refine WO_fact (t := 220) (b := false) (y19.2.2 == y20.2.2) (by kernel_rfl) hc ?_
          refine WO_seg 13 [(8, .bool false)] (by kernel_rfl) (by kernel_rfl) ?_
          obtain rfl := Option.some.inj hr
          have st := st.front9
          have st := st.front6
          have st := st.front6
          have st := st.front5
          have st := st.front5
          have st := st.front9
          have st := st.front9
          have st := st.front9
          have st := st.front9
          have st := st.front9
          exact WO_env _ (by kernel_rfl) (K _ _ ⟨m39, rfl, hm, st, r31, r29, r10, r8, r4⟩)
    intro K0_u2
    have st := st.front4
    have st := st.front1
    have st := st.front4
    have st := st.front4
    have st := st.front4
    refine W_env _ (by kernel_rfl) (W_loop (fun k1 L' w' => ∃ (s1 : Int × List (Int) × Int) (a10 : Option Addr) (c10 : Nat) (m9 : Mem), loopM (testgatelaw13_ContentsCalls_L1 N p2 p3 y1 o1) k1 s1 = some out1 ∧ L' = [(2, .string p2), (3, .int .i64 p3), (9, .pointer (some ⟨b2, 0, none⟩)), (10, .pointer (some ⟨b3, 0, none⟩)), (11, .pointer (some ⟨b4, 0, none⟩)), (58, .slice (some ⟨b5, 0, none⟩) (List.length ([y1.2, o1])) 2), (59, .int .i64 (List.length ([y1.2, o1]) : Int)), (60, .int .i64 s1.1)] ∧ m.le m9 ∧ St m9 (.blk b2 (.cells #[.slice a10 (List.length s1.2.1) c10, .int .i64 s1.2.2] 35 (0, 0)) :: .blk b4 (.cells #[.slice a8 (List.length o1) c8] 24 (0, 0)) :: .blk b3 (.cells #[.slice a4 (List.length y1.2) c4] 24 (0, 0)) :: .room (some ⟨b5, 0, none⟩) (List.length ([y1.2, o1])) 2 24 1 :: .room a4 (List.length y1.2) c4 9 1 :: own) w' ∧ RepS (cSl cStr) m9 (some ⟨b5, 0, none⟩) 2 ([y1.2, o1]) ∧ RepS (cInt .i64) m9 a10 c10 s1.2.1 ∧ RepS cStr m9 a8 c8 o1 ∧ RepS cStr m9 a4 c4 y1.2) N ⟨(0, y3.1.1, y3.1.2), a7, c7, m7, hr, rfl, hm, st, r9, r7, r8, r4⟩ ?_)
    clear st hr
    rintro k1 _ w14 ⟨s1, a10, c10, m9, hL, rfl, hm, st, r9, r11, r8, r4⟩
    rcases k1 with _ | k1
    · exact loopM_zero hL
    · obtain ⟨qu2, hr, hSu2, hBu2⟩ := loopM_succ hL
      clear hL
      unfold testgatelaw13_ContentsCalls_L1 at hr
      refine W_seq ?_
      refine W_region ?_
      refine WO_seg 1 [(61, .bool (decide (s1.1 < (List.length ([y1.2, o1]) : Int))))] (by kernel_rfl) (by kernel_rfl) ?_
      refine WO_end rfl ?_
      refine X_then ?_
      refine W_seq ?_
      refine W_cond (decide (s1.1 < (List.length ([y1.2, o1]) : Int))) (by kernel_rfl) ?_ ?_
      · intro hc
        rw [if_pos hc] at hr
        refine W_skip ?_
        refine X_then ?_
        refine W_seq ?_
        refine W_block ?_
        refine W_seq ?_
        refine W_region ?_
        replace hr := bindS hr
        obtain ⟨x1, hx4, hr⟩ := hr
        refine WO_one rfl (One_index (d := 62) (t := 38) (e := 24) (x := (.tmp 58)) (y := (.tmp 60)) (cSl cStr) (by kernel_rfl) rfl (show evL _ _ = some (.slice (some ⟨b5, 0, none⟩) (List.length ([y1.2, o1])) 2) from (by kernel_rfl)) (show evL _ _ = some (.int .i64 s1.1) from (by kernel_rfl)) (by kernel_rfl) r9 hx4 ?_)
        rintro b6 f1 cs1 ⟨a11, c11, rfl, r12⟩ hq1
        refine WO_one rfl (One_load_row (d := 63) (t := 24) (x := (.tmp 62)) (.agg #[.slice a11 (List.length x1) c11]) (by kernel_rfl) rfl (show evL _ _ = some (.pointer (some ⟨b6, f1, none⟩)) from (by kernel_rfl)) st hq1 (by kernel_rfl) ?_)
        refine WO_one rfl (One_alloc (d := 13) (e := 24) (.agg #[.slice none 0 0]) (by kernel_rfl) rfl (by kernel_rfl) st ?_)
        clear st
        intro b7 w15 st
        refine WO_one rfl (One_store (t := 24) (x := (.tmp 13)) (y := (.tmp 63)) (v := .agg #[.slice a11 (List.length x1) c11]) (c' := #[.slice a11 (List.length x1) c11]) (by kernel_rfl) (show evL _ _ = some (.pointer (some ⟨b7, 0, none⟩)) from (by kernel_rfl)) (show evL _ _ = some (.agg #[.slice a11 (List.length x1) c11]) from (by kernel_rfl)) st (by kernel_rfl) (by kernel_rfl) ?_)
        clear st
        intro w16 st
        refine WO_end rfl ?_
        refine X_then ?_
        refine W_seq ?_
        refine W_seq ?_
        refine W_draw [(5, fun w' => Inv m9 w' ∧ Piece.holds m9 w' (.blk b7 (.cells #[.slice a11 (List.length x1) c11] 24 (0, 0))) ∧ True)] (by kernel_rfl) st ?_
        clear st
        intro w17 _ st
        have hmS := m9.le_refl
        refine ⟨⟨.inr ⟨Inv.anti st.inv hmS, Piece.holds_anti st.head hmS, trivial⟩, trivial⟩, ?_⟩
        refine WA_load_own (t := 24) (x := (.tmp 13)) 0 64 (.agg #[.slice a11 (List.length x1) c11]) (by kernel_rfl) rfl (by kernel_rfl) (.head _) (QP_then (QP_then (QP_block (QP_then (QP_then (QP_block (QP_then QP_body))))))) (fun _ h => h.2.1) (show evL _ _ = some (.pointer (some ⟨b7, 0, none⟩)) from (by kernel_rfl)) (by kernel_rfl) ?_
        refine WA_load_own (t := 24) (x := (.tmp 13)) 2 66 (.agg #[.slice a11 (List.length x1) c11]) (by kernel_rfl) rfl (by kernel_rfl) (.head _) (QP_then (QP_then (QP_block (QP_then (QP_then (QP_block (QP_then QP_body))))))) (fun _ h => h.2.1) (show evL _ _ = some (.pointer (some ⟨b7, 0, none⟩)) from (by kernel_rfl)) (by kernel_rfl) ?_
        replace hr := bindS hr
        obtain ⟨y4, hx5, hr⟩ := hr
        refine WA_one 1 (by kernel_rfl) (One_fn 65 14 #[.agg #[.slice a11 (List.length x1) c11]] (by kernel_rfl) rfl ?_)
        refine (contents_Check_ok st r12 hx5).mono ?_
        clear st
        rintro _ w18 ⟨m10, rfl, hle7, st⟩
        refine ⟨_, rfl, ?_⟩
        have hm := Mem.le_trans hm hle7
        have r9 := r9.mono hle7
        have r12 := r12.mono hle7
        have r11 := r11.mono hle7
        have r8 := r8.mono hle7
        have r4 := r4.mono hle7
        have hmS := Mem.le_trans hmS hle7
        refine ⟨⟨.inr ⟨Inv.anti st.inv hmS, Piece.holds_anti st.head hmS, trivial⟩, trivial⟩, ?_⟩
        replace hr := bindS hr
        obtain ⟨y5, hx6, hr⟩ := hr
        refine WA_one 3 (by kernel_rfl) (One_fn 67 18 #[.agg #[.slice a11 (List.length x1) c11]] (by kernel_rfl) rfl ?_)
        refine (testgateref13_Check_ok st r12 hx6).mono ?_
        clear st
        rintro _ w19 ⟨m11, rfl, hle8, st⟩
        refine ⟨_, rfl, ?_⟩
        have hm := Mem.le_trans hm hle8
        have r9 := r9.mono hle8
        have r12 := r12.mono hle8
        have r11 := r11.mono hle8
        have r8 := r8.mono hle8
        have r4 := r4.mono hle8
        have hmS := Mem.le_trans hmS hle8
        refine ⟨⟨.inr ⟨Inv.anti st.inv hmS, Piece.holds_anti st.head hmS, trivial⟩, trivial⟩, ?_⟩
        refine WA_pure 4 68 (.bool (y4 != y5)) (by kernel_rfl) rfl (by kernel_rfl) (.head _) (QP_then (QP_then (QP_block (QP_then (QP_then (QP_block (QP_then QP_body))))))) ?_
        refine WA_done (by kernel_rfl) ?_
        refine X_then ?_
        refine W_cond (y4 != y5) (by kernel_rfl) ?_ ?_
        · intro hc
          rw [if_pos hc] at hr
          refine W_seq ?_
          refine W_region ?_
          refine WO_seg 1 [(8, .bool false)] (by kernel_rfl) (by kernel_rfl) ?_
          refine WO_end rfl ?_
          have st := st.front4
          have st := st.tail
          refine X_then ?_
          refine W_ret ?_
          refine X_then_ret ?_
          refine X_block_ret ?_
          refine X_then_ret ?_
          obtain rfl := Option.some.inj hr
          have ho := hBu2 _ rfl
          subst ho
          have hr := hrKu2
          dsimp only at hr
          refine X_then_ret ?_
          refine X_block_ret ?_
          refine X_then_ret ?_
          obtain rfl := Option.some.inj hr
          refine X_ret [.tmp 8] [.bool false] rfl (ResAll.cons (ResAt.tmp (by kernel_rfl)) ResAll.nil) ?_
          have st := st.tail
          have st := st.tail
          have st := st.tail
          have st := st.tail
          have st := st.tail
          exact ⟨m11, rfl, hm, st⟩
        · intro hc
          rw [if_neg (not_true hc)] at hr
          refine W_skip ?_
          refine X_then ?_
          refine W_seq ?_
          refine W_seq ?_
          refine W_region ?_
          refine WO_seg 1 [(69, .string p2)] (by kernel_rfl) (by kernel_rfl) ?_
          refine WO_one rfl (One_buildSlice (d := 70) (t := 22) (e := 9) (len := 4) (parts := #[(0, (.const (.string (⟨#[97]⟩ : ByteArray)))), (1, (.const (.string (⟨#[]⟩ : ByteArray)))), (2, (.const (.string (⟨#[97, 98]⟩ : ByteArray)))), (3, (.tmp 69))]) cStr (xs := [(⟨#[97]⟩ : ByteArray), (⟨#[]⟩ : ByteArray), (⟨#[97, 98]⟩ : ByteArray), p2]) [.string (⟨#[97]⟩ : ByteArray), .string (⟨#[]⟩ : ByteArray), .string (⟨#[97, 98]⟩ : ByteArray), .string p2] (by kernel_rfl) rfl (fun _ => buildCells_run (by kernel_rfl) _) rfl rfl st ⟨[.string (⟨#[97]⟩ : ByteArray)], _, rfl, rfl, ⟨[.string (⟨#[]⟩ : ByteArray)], _, rfl, rfl, ⟨[.string (⟨#[97, 98]⟩ : ByteArray)], _, rfl, rfl, ⟨[.string p2], _, rfl, rfl, rfl⟩⟩⟩⟩ ?_)
          clear st
          intro b8 m12 w20 hle9 st r13
          have hm := Mem.le_trans hm hle9
          have r9 := r9.mono hle9
          have r12 := r12.mono hle9
          have r11 := r11.mono hle9
          have r8 := r8.mono hle9
          have r4 := r4.mono hle9
          refine WO_seg 2 [(71, .int .i64 (List.length ([(⟨#[97]⟩ : ByteArray), (⟨#[]⟩ : ByteArray), (⟨#[97, 98]⟩ : ByteArray), p2]) : Int)), (72, .int .i64 0)] (by kernel_rfl) (by kernel_rfl) ?_
          refine WO_end rfl ?_
          refine X_then ?_
          refine W_block ?_
          replace hr := bindS hr
          obtain ⟨out2, hr, hrKu3⟩ := hr
          refine W_cut (.exit 2) (fun L' w' => ∃ (o3 : Unit) (m13 : Mem), (.inl o3) = out2 ∧ L' = [(2, .string p2), (3, .int .i64 p3), (9, .pointer (some ⟨b2, 0, none⟩)), (10, .pointer (some ⟨b3, 0, none⟩)), (11, .pointer (some ⟨b4, 0, none⟩)), (13, .pointer (some ⟨b7, 0, none⟩)), (58, .slice (some ⟨b5, 0, none⟩) (List.length ([y1.2, o1])) 2), (59, .int .i64 (List.length ([y1.2, o1]) : Int)), (60, .int .i64 s1.1)] ∧ m.le m13 ∧ St m13 (.blk b7 (.cells #[.slice a11 (List.length x1) c11] 24 (0, 0)) :: .blk b2 (.cells #[.slice a10 (List.length s1.2.1) c10, .int .i64 s1.2.2] 35 (0, 0)) :: .blk b4 (.cells #[.slice a8 (List.length o1) c8] 24 (0, 0)) :: .blk b3 (.cells #[.slice a4 (List.length y1.2) c4] 24 (0, 0)) :: .room (some ⟨b8, 0, none⟩) (List.length ([(⟨#[97]⟩ : ByteArray), (⟨#[]⟩ : ByteArray), (⟨#[97, 98]⟩ : ByteArray), p2])) 4 9 1 :: .room (some ⟨b5, 0, none⟩) (List.length ([y1.2, o1])) 2 24 1 :: .room a4 (List.length y1.2) c4 9 1 :: own) w' ∧ RepS (cSl cStr) m13 (some ⟨b5, 0, none⟩) 2 ([y1.2, o1]) ∧ RepS cStr m13 a11 c11 x1 ∧ RepS (cInt .i64) m13 a10 c10 s1.2.1 ∧ RepS cStr m13 a8 c8 o1 ∧ RepS cStr m13 a4 c4 y1.2) ?_ ?_
          · clear hr st
            rintro _ w21 ⟨o3, m13, rfl, rfl, hm, st, r9, r12, r11, r8, r4⟩
            have hr := hrKu3
            clear hrKu3
            dsimp only at hr
            refine X_block_eq ?_
            refine X_then ?_
            refine W_seq ?_
            refine W_seq ?_
            refine W_region ?_
            refine WO_seg 1 [(127, .pointer (some ⟨b7, 0, none⟩))] (by kernel_rfl) (by kernel_rfl) ?_
            refine WO_one rfl (One_load_own (d := 128) (t := 22) (x := (.tmp 127)) (.slice a11 (List.length x1) c11) (by kernel_rfl) rfl (show evL _ _ = some (.pointer (some ⟨b7, 0, none⟩)) from (by kernel_rfl)) st.head (by kernel_rfl) ?_)
            refine WO_seg 2 [(129, .int .i64 (List.length x1 : Int)), (130, .int .i64 p3)] (by kernel_rfl) (by kernel_rfl) ?_
            refine WO_one rfl (One_buildSlice (d := 131) (t := 32) (e := 3) (len := 5) (parts := #[(0, (.const (.int .i64 0))), (1, (.const (.int .i64 1))), (2, (.tmp 129)), (3, (.const (.int .i64 (-1)))), (4, (.tmp 130))]) (cInt .i64) (xs := [0, 1, (List.length x1 : Int), (-1), p3]) [.int .i64 0, .int .i64 1, .int .i64 (List.length x1 : Int), .int .i64 (-1), .int .i64 p3] (by kernel_rfl) rfl (fun _ => buildCells_run (by kernel_rfl) _) rfl rfl st ⟨[.int .i64 0], _, rfl, rfl, ⟨[.int .i64 1], _, rfl, rfl, ⟨[.int .i64 (List.length x1 : Int)], _, rfl, rfl, ⟨[.int .i64 (-1)], _, rfl, rfl, ⟨[.int .i64 p3], _, rfl, rfl, rfl⟩⟩⟩⟩⟩ ?_)
            clear st
            intro b12 m21 w33 hle15 st r16
            have hm := Mem.le_trans hm hle15
            have r9 := r9.mono hle15
            have r12 := r12.mono hle15
            have r11 := r11.mono hle15
            have r8 := r8.mono hle15
            have r4 := r4.mono hle15
            refine WO_seg 2 [(132, .int .i64 (List.length ([0, 1, (List.length x1 : Int), (-1), p3]) : Int)), (133, .int .i64 0)] (by kernel_rfl) (by kernel_rfl) ?_
            refine WO_end rfl ?_
            have st := st.front5
            have st := st.tail
            refine X_then ?_
            refine W_block ?_
            replace hr := bindS hr
            obtain ⟨out3, hr, hrKu5⟩ := hr
            refine W_cut (.exit 4) (fun L' w' => ∃ (o5 : Unit) (m22 : Mem), (.inl o5) = out3 ∧ L' = [(2, .string p2), (3, .int .i64 p3), (9, .pointer (some ⟨b2, 0, none⟩)), (10, .pointer (some ⟨b3, 0, none⟩)), (11, .pointer (some ⟨b4, 0, none⟩)), (13, .pointer (some ⟨b7, 0, none⟩)), (58, .slice (some ⟨b5, 0, none⟩) (List.length ([y1.2, o1])) 2), (59, .int .i64 (List.length ([y1.2, o1]) : Int)), (60, .int .i64 s1.1)] ∧ m.le m22 ∧ St m22 (.blk b7 (.cells #[.slice a11 (List.length x1) c11] 24 (0, 0)) :: .blk b2 (.cells #[.slice a10 (List.length s1.2.1) c10, .int .i64 s1.2.2] 35 (0, 0)) :: .blk b4 (.cells #[.slice a8 (List.length o1) c8] 24 (0, 0)) :: .blk b3 (.cells #[.slice a4 (List.length y1.2) c4] 24 (0, 0)) :: .room (some ⟨b12, 0, none⟩) (List.length ([0, 1, (List.length x1 : Int), (-1), p3])) 5 3 1 :: .room (some ⟨b5, 0, none⟩) (List.length ([y1.2, o1])) 2 24 1 :: .room a4 (List.length y1.2) c4 9 1 :: own) w' ∧ RepS (cSl cStr) m22 (some ⟨b5, 0, none⟩) 2 ([y1.2, o1]) ∧ RepS cStr m22 a11 c11 x1 ∧ RepS (cInt .i64) m22 a10 c10 s1.2.1 ∧ RepS cStr m22 a8 c8 o1 ∧ RepS cStr m22 a4 c4 y1.2) ?_ ?_
            · clear hr st
              rintro _ w34 ⟨o5, m22, rfl, rfl, hm, st, r9, r12, r11, r8, r4⟩
              have hr := hrKu5
              clear hrKu5
              dsimp only at hr
              refine X_block_eq ?_
              refine X_then ?_
              refine W_seq ?_
              refine W_region ?_
              refine WO_seg 1 [(32, .slice none (List.length ([] : List (Int))) 0)] (by kernel_rfl) (by kernel_rfl) ?_
              refine WO_end rfl ?_
              have st := st.front4
              have st := st.tail
              refine X_then ?_
              refine W_seq ?_
              refine W_seq ?_
              refine W_region ?_
              refine WO_seg 1 [(158, .pointer (some ⟨b2, 0, none⟩))] (by kernel_rfl) (by kernel_rfl) ?_
              have st := st.front1
              replace hr := bindS hr
              obtain ⟨y13, hx16, hr⟩ := hr
              refine WO_one rfl (One_fn 159 25 #[.pointer (some ⟨b2, 0, none⟩), .int .i64 6] (by kernel_rfl) rfl ?_)
              refine (testgatemake_Tape_Next_ok st r11 hx16).mono ?_
              clear st
              rintro _ w39 ⟨a14, c14, m27, rfl, hle18, st, r17⟩
              refine ⟨_, rfl, ?_⟩
              have hm := Mem.le_trans hm hle18
              have r9 := r9.mono hle18
              have r11 := r11.mono hle18
              have r12 := r12.mono hle18
              have r8 := r8.mono hle18
              have r4 := r4.mono hle18
              refine WO_seg 1 [(33, .int .i64 y13.2)] (by kernel_rfl) (by kernel_rfl) ?_
              refine WO_end rfl ?_
              refine X_then ?_
              refine W_block ?_
              replace hr := bindS hr
              obtain ⟨out4, hr, hrKu7⟩ := hr
              refine W_cut (.exit 6) (fun L' w' => ∃ (o7 : List (Int) × List (Int) × Int) (a15 : Option Addr) (c15 : Nat) (a16 : Option Addr) (c16 : Nat) (m28 : Mem), o7 = out4 ∧ L' = [(2, .string p2), (3, .int .i64 p3), (9, .pointer (some ⟨b2, 0, none⟩)), (10, .pointer (some ⟨b3, 0, none⟩)), (11, .pointer (some ⟨b4, 0, none⟩)), (13, .pointer (some ⟨b7, 0, none⟩)), (32, .slice a15 (List.length o7.1) c15), (58, .slice (some ⟨b5, 0, none⟩) (List.length ([y1.2, o1])) 2), (59, .int .i64 (List.length ([y1.2, o1]) : Int)), (60, .int .i64 s1.1)] ∧ m.le m28 ∧ St m28 (.blk b2 (.cells #[.slice a16 (List.length o7.2.1) c16, .int .i64 o7.2.2] 35 (0, 0)) :: .blk b7 (.cells #[.slice a11 (List.length x1) c11] 24 (0, 0)) :: .blk b4 (.cells #[.slice a8 (List.length o1) c8] 24 (0, 0)) :: .blk b3 (.cells #[.slice a4 (List.length y1.2) c4] 24 (0, 0)) :: .room (some ⟨b5, 0, none⟩) (List.length ([y1.2, o1])) 2 24 1 :: .room a4 (List.length y1.2) c4 9 1 :: .room a15 (List.length o7.1) c15 3 1 :: own) w' ∧ RepS (cInt .i64) m28 a15 c15 o7.1 ∧ RepS (cSl cStr) m28 (some ⟨b5, 0, none⟩) 2 ([y1.2, o1]) ∧ RepS (cInt .i64) m28 a16 c16 o7.2.1 ∧ RepS cStr m28 a11 c11 x1 ∧ RepS cStr m28 a8 c8 o1 ∧ RepS cStr m28 a4 c4 y1.2) ?_ ?_
              · clear hr st
                rintro _ w40 ⟨o7, a15, c15, a16, c16, m28, rfl, rfl, hm, st, r18, r9, r19, r12, r8, r4⟩
                have hr := hrKu7
                clear hrKu7
                refine X_block_eq ?_
                refine X_then ?_
                refine W_seq ?_
                refine W_region ?_
                refine WO_one rfl (One_load_own (d := 174) (t := 24) (x := (.tmp 13)) (.agg #[.slice a11 (List.length x1) c11]) (by kernel_rfl) rfl (show evL _ _ = some (.pointer (some ⟨b7, 0, none⟩)) from (by kernel_rfl)) st.tail.head (by kernel_rfl) ?_)
                refine WO_seg 1 [(175, .slice a15 (List.length o7.1) c15)] (by kernel_rfl) (by kernel_rfl) ?_
                replace hr := bindS hr
                obtain ⟨y15, hx19, hr⟩ := hr
                refine WO_one rfl (One_fn 176 26 #[.agg #[.slice a11 (List.length x1) c11], .slice a15 (List.length o7.1) c15] (by kernel_rfl) rfl ?_)
                refine (contents_Keep_ok st r12 r18 hx19).mono ?_
                clear st
                rintro _ w45 ⟨a21, c21, a22, c22, m33, rfl, hle22, st, r25, r26⟩
                refine ⟨_, rfl, ?_⟩
                have hm := Mem.le_trans hm hle22
                have r18 := r18.mono hle22
                have r9 := r9.mono hle22
                have r12 := r12.mono hle22
                have r19 := r19.mono hle22
                have r8 := r8.mono hle22
                have r4 := r4.mono hle22
                refine WO_seg 4 [(177, .agg #[.slice a21 (List.length y15.1) c21]), (178, .slice a22 (List.length y15.2.1) c22), (179, .int .i64 y15.2.2)] (by kernel_rfl) (by kernel_rfl) ?_
                refine WO_one rfl (One_alloc (d := 34) (e := 24) (.agg #[.slice none 0 0]) (by kernel_rfl) rfl (by kernel_rfl) st ?_)
                clear st
                intro b15 w46 st
                refine WO_one rfl (One_store (t := 24) (x := (.tmp 34)) (y := (.tmp 177)) (v := .agg #[.slice a21 (List.length y15.1) c21]) (c' := #[.slice a21 (List.length y15.1) c21]) (by kernel_rfl) (show evL _ _ = some (.pointer (some ⟨b15, 0, none⟩)) from (by kernel_rfl)) (show evL _ _ = some (.agg #[.slice a21 (List.length y15.1) c21]) from (by kernel_rfl)) st (by kernel_rfl) (by kernel_rfl) ?_)
                clear st
                intro w47 st
                refine WO_seg 2 [(35, .slice a22 (List.length y15.2.1) c22), (36, .int .i64 y15.2.2)] (by kernel_rfl) (by kernel_rfl) ?_
                refine WO_end rfl ?_
                refine X_then ?_
                refine W_seq ?_
                refine W_region ?_
                refine WO_one rfl (One_load_own (d := 181) (t := 24) (x := (.tmp 13)) (.agg #[.slice a11 (List.length x1) c11]) (by kernel_rfl) rfl (show evL _ _ = some (.pointer (some ⟨b7, 0, none⟩)) from (by kernel_rfl)) st.tail.tail.tail.tail.head (by kernel_rfl) ?_)
                refine WO_seg 1 [(182, .slice a15 (List.length o7.1) c15)] (by kernel_rfl) (by kernel_rfl) ?_
                replace hr := bindS hr
                obtain ⟨y16, hx20, hr⟩ := hr
                refine WO_one rfl (One_fn 183 27 #[.agg #[.slice a11 (List.length x1) c11], .slice a15 (List.length o7.1) c15] (by kernel_rfl) rfl ?_)
                refine (testgateref13_Keep_ok st r12 r18 hx20).mono ?_
                clear st
                rintro _ w48 ⟨a23, c23, a24, c24, m34, rfl, hle23, st, r27, r28⟩
                refine ⟨_, rfl, ?_⟩
                have hm := Mem.le_trans hm hle23
                have r18 := r18.mono hle23
                have r9 := r9.mono hle23
                have r26 := r26.mono hle23
                have r12 := r12.mono hle23
                have r25 := r25.mono hle23
                have r19 := r19.mono hle23
                have r8 := r8.mono hle23
                have r4 := r4.mono hle23
                refine WO_seg 4 [(184, .agg #[.slice a23 (List.length y16.1) c23]), (185, .slice a24 (List.length y16.2.1) c24), (186, .int .i64 y16.2.2)] (by kernel_rfl) (by kernel_rfl) ?_
                refine WO_one rfl (One_alloc (d := 37) (e := 24) (.agg #[.slice none 0 0]) (by kernel_rfl) rfl (by kernel_rfl) st ?_)
                clear st
                intro b16 w49 st
                refine WO_one rfl (One_store (t := 24) (x := (.tmp 37)) (y := (.tmp 184)) (v := .agg #[.slice a23 (List.length y16.1) c23]) (c' := #[.slice a23 (List.length y16.1) c23]) (by kernel_rfl) (show evL _ _ = some (.pointer (some ⟨b16, 0, none⟩)) from (by kernel_rfl)) (show evL _ _ = some (.agg #[.slice a23 (List.length y16.1) c23]) from (by kernel_rfl)) st (by kernel_rfl) (by kernel_rfl) ?_)
                clear st
                intro w50 st
                refine WO_seg 2 [(38, .slice a24 (List.length y16.2.1) c24), (39, .int .i64 y16.2.2)] (by kernel_rfl) (by kernel_rfl) ?_
                refine WO_end rfl ?_
                have st := st.front12
                have st := st.tail
                refine X_then ?_
                refine W_seq ?_
                refine W_region ?_
                replace hr := bindS hr
                obtain ⟨o8, hr, hrK⟩ := hr
                refine WO_cut (j := 15) (fun L' w' => ∃ (m35 : Mem), L' = [(2, .string p2), (3, .int .i64 p3), (9, .pointer (some ⟨b2, 0, none⟩)), (10, .pointer (some ⟨b3, 0, none⟩)), (11, .pointer (some ⟨b4, 0, none⟩)), (58, .slice (some ⟨b5, 0, none⟩) (List.length ([y1.2, o1])) 2), (59, .int .i64 (List.length ([y1.2, o1]) : Int)), (60, .int .i64 s1.1), (201, .bool o8)] ∧ m.le m35 ∧ St m35 (.blk b16 (.cells #[.slice a23 (List.length y16.1) c23] 24 (0, 0)) :: .blk b15 (.cells #[.slice a21 (List.length y15.1) c21] 24 (0, 0)) :: .blk b2 (.cells #[.slice a16 (List.length o7.2.1) c16, .int .i64 o7.2.2] 35 (0, 0)) :: .blk b7 (.cells #[.slice a11 (List.length x1) c11] 24 (0, 0)) :: .blk b4 (.cells #[.slice a8 (List.length o1) c8] 24 (0, 0)) :: .blk b3 (.cells #[.slice a4 (List.length y1.2) c4] 24 (0, 0)) :: .room a23 (List.length y16.1) c23 9 1 :: .room a24 (List.length y16.2.1) c24 3 1 :: .room a21 (List.length y15.1) c21 9 1 :: .room a22 (List.length y15.2.1) c22 3 1 :: .room (some ⟨b5, 0, none⟩) (List.length ([y1.2, o1])) 2 24 1 :: .room a4 (List.length y1.2) c4 9 1 :: own) w' ∧ RepS (cSl cStr) m35 (some ⟨b5, 0, none⟩) 2 ([y1.2, o1]) ∧ RepS cStr m35 a23 c23 y16.1 ∧ RepS cStr m35 a21 c21 y15.1 ∧ RepS (cInt .i64) m35 a16 c16 o7.2.1 ∧ RepS cStr m35 a11 c11 x1 ∧ RepS cStr m35 a8 c8 o1 ∧ RepS cStr m35 a4 c4 y1.2) ?_ ?_
                · clear hr st
                  have hr := hrK
                  clear hrK
                  rintro _ w51 ⟨m35, rfl, hm, st, r9, r27, r25, r19, r12, r8, r4⟩
                  refine WO_end rfl ?_
                  refine X_then ?_
                  refine W_cond o8 (by kernel_rfl) ?_ ?_
                  · intro hc
                    rw [if_pos hc] at hr
                    refine W_seq ?_
                    refine W_region ?_
                    refine WO_seg 1 [(8, .bool false)] (by kernel_rfl) (by kernel_rfl) ?_
                    refine WO_end rfl ?_
                    have st := st.front7
                    have st := st.tail
                    have st := st.front8
                    have st := st.tail
                    have st := st.front8
                    have st := st.tail
                    refine X_then ?_
                    refine W_ret ?_
                    refine X_block_ret ?_
                    refine X_then_ret ?_
                    obtain rfl := Option.some.inj hr
                    have ho := hBu2 _ rfl
                    subst ho
                    have hr := hrKu2
                    dsimp only at hr
                    refine X_then_ret ?_
                    refine X_block_ret ?_
                    refine X_then_ret ?_
                    obtain rfl := Option.some.inj hr
                    refine X_ret [.tmp 8] [.bool false] rfl (ResAll.cons (ResAt.tmp (by kernel_rfl)) ResAll.nil) ?_
                    have st := st.tail
                    have st := st.tail
                    have st := st.tail
                    have st := st.tail
                    have st := st.tail
                    have st := st.tail
                    have st := st.tail
                    have st := st.tail
                    have st := st.tail
                    exact ⟨m35, rfl, hm, st⟩
                  · intro hc
                    rw [if_neg (not_true hc)] at hr
                    refine W_skip ?_
                    refine X_block ?_
                    refine X_then ?_
                    refine W_region ?_
                    refine WO_seg 2 [(60, .int .i64 (IntKind.wrap .i64 (s1.1 + 1)))] (by kernel_rfl) (by kernel_rfl) ?_
                    refine WO_end rfl ?_
                    have st := st.front7
                    have st := st.tail
                    have st := st.front8
                    have st := st.tail
                    obtain rfl := Option.some.inj hr
                    have hL := hSu2 _ rfl
                    have st := st.tail
                    have st := st.tail
                    have st := st.front1
                    have st := st.tail
                    have st := st.front3
                    have st := st.tail
                    have st := st.front3
                    have st := st.tail
                    have st := st.front4
                    have st := st.front4
                    have st := st.front4
                    have st := st.front4
                    have st := st.front4
                    exact X_env _ (by kernel_rfl) (X_round k1 (Nat.lt_succ_self _) ⟨(IntKind.wrap .i64 (s1.1 + 1), o7.2.1, o7.2.2), a16, c16, m35, hL, rfl, hm, st, r9, r19, r8, r4⟩)
                · intro K
                  clear hrK
                  refine WO_seg 4 [(190, .bool (y15.2.2 != y16.2.2))] (by kernel_rfl) (by kernel_rfl) ?_
                  rcases bcases (y15.2.2 != y16.2.2) with hc | hc
                  · rw [if_pos hc] at hr
                    refine WO_fact (t := 190) (b := true) (y15.2.2 != y16.2.2) (by kernel_rfl) hc ?_
                    refine WO_seg 11 [(201, .bool true)] (by kernel_rfl) (by kernel_rfl) ?_
                    obtain rfl := Option.some.inj hr
                    have st := st.front11
                    have st := st.front11
                    have st := st.front7
                    have st := st.front7
                    have st := st.front6
                    have st := st.front6
                    have st := st.front11
                    have st := st.front11
                    have st := st.front11
                    have st := st.front11
                    have st := st.front11
                    have st := st.front11
                    exact WO_env _ (by kernel_rfl) (K _ _ ⟨m34, rfl, hm, st, r9, r27, r25, r19, r12, r8, r4⟩)
                  · rw [if_neg (not_true hc)] at hr
                    refine WO_fact (t := 190) (b := false) (y15.2.2 != y16.2.2) (by kernel_rfl) hc ?_
                    refine WO_one rfl (One_load_own (d := 191) (t := 24) (x := (.tmp 34)) (.agg #[.slice a21 (List.length y15.1) c21]) (by kernel_rfl) rfl (show evL _ _ = some (.pointer (some ⟨b15, 0, none⟩)) from (by kernel_rfl)) st.tail.tail.tail.head (by kernel_rfl) ?_)
                    refine WO_one rfl (One_load_own (d := 192) (t := 24) (x := (.tmp 37)) (.agg #[.slice a23 (List.length y16.1) c23]) (by kernel_rfl) rfl (show evL _ _ = some (.pointer (some ⟨b16, 0, none⟩)) from (by kernel_rfl)) st.head (by kernel_rfl) ?_)
                    replace hr := bindS hr
                    obtain ⟨y17, hx21, hr⟩ := hr
                    refine WO_one rfl (One_fn 193 22 #[.agg #[.slice a21 (List.length y15.1) c21], .agg #[.slice a23 (List.length y16.1) c23]] (by kernel_rfl) rfl ?_)
                    refine (testgateref13_Same_ok st r25 r27 hx21).mono ?_
                    clear st
                    rintro _ w52 ⟨m36, rfl, hle24, st⟩
                    refine ⟨_, rfl, ?_⟩
                    have hm := Mem.le_trans hm hle24
                    have r9 := r9.mono hle24
                    have r26 := r26.mono hle24
                    have r28 := r28.mono hle24
                    have r25 := r25.mono hle24
                    have r27 := r27.mono hle24
                    have r19 := r19.mono hle24
                    have r12 := r12.mono hle24
                    have r8 := r8.mono hle24
                    have r4 := r4.mono hle24
                    refine WO_seg 3 [(196, .bool (!y17))] (by kernel_rfl) (by kernel_rfl) ?_
                    rcases bcases (!y17) with hc | hc
                    · rw [if_pos hc] at hr
                      refine WO_fact (t := 196) (b := true) (!y17) (by kernel_rfl) hc ?_
                      refine WO_seg 5 [(201, .bool true)] (by kernel_rfl) (by kernel_rfl) ?_
                      obtain rfl := Option.some.inj hr
                      have st := st.front11
                      have st := st.front11
                      have st := st.front7
                      have st := st.front7
                      have st := st.front6
                      have st := st.front6
                      have st := st.front11
                      have st := st.front11
                      have st := st.front11
                      have st := st.front11
                      have st := st.front11
                      have st := st.front11
                      exact WO_env _ (by kernel_rfl) (K _ _ ⟨m36, rfl, hm, st, r9, r27, r25, r19, r12, r8, r4⟩)
                    · rw [if_neg (not_true hc)] at hr
                      refine WO_fact (t := 196) (b := false) (!y17) (by kernel_rfl) hc ?_
                      refine WO_seg 2 [(197, .slice a22 (List.length y15.2.1) c22), (198, .slice a24 (List.length y16.2.1) c24)] (by kernel_rfl) (by kernel_rfl) ?_
                      replace hr := bindS hr
                      obtain ⟨y18, hx22, hr⟩ := hr
                      refine WO_one rfl (One_fn 199 28 #[.slice a22 (List.length y15.2.1) c22, .slice a24 (List.length y16.2.1) c24] (by kernel_rfl) rfl ?_)
                      refine (testgatemake_SameInts_ok st r26 r28 hx22).mono ?_
                      clear st
                      rintro _ w53 ⟨m37, rfl, hle25, st⟩
                      refine ⟨_, rfl, ?_⟩
                      have hm := Mem.le_trans hm hle25
                      have r9 := r9.mono hle25
                      have r26 := r26.mono hle25
                      have r28 := r28.mono hle25
                      have r25 := r25.mono hle25
                      have r27 := r27.mono hle25
                      have r19 := r19.mono hle25
                      have r12 := r12.mono hle25
                      have r8 := r8.mono hle25
                      have r4 := r4.mono hle25
                      refine WO_seg 2 [(201, .bool (!y18))] (by kernel_rfl) (by kernel_rfl) ?_
                      obtain rfl := Option.some.inj hr
                      have st := st.front11
                      have st := st.front11
                      have st := st.front7
                      have st := st.front7
                      have st := st.front6
                      have st := st.front6
                      have st := st.front11
                      have st := st.front11
                      have st := st.front11
                      have st := st.front11
                      have st := st.front11
                      have st := st.front11
                      exact WO_env _ (by kernel_rfl) (K _ _ ⟨m37, rfl, hm, st, r9, r27, r25, r19, r12, r8, r4⟩)
              intro K6_u7
              clear hrKu7
              have st := st.nilroom 3 1
              have st := st.front6
              have st := st.front6
              have st := st.front6
              have st := st.front6
              have st := st.front6
              have st := st.front6
              refine W_env _ (by kernel_rfl) (W_loop (fun k4 L' w' => ∃ (s4 : List (Int) × Int × List (Int) × Int) (a17 : Option Addr) (c17 : Nat) (a18 : Option Addr) (c18 : Nat) (m29 : Mem), loopM (testgatelaw13_ContentsCalls_L4 N x1) k4 s4 = some out4 ∧ L' = [(2, .string p2), (3, .int .i64 p3), (9, .pointer (some ⟨b2, 0, none⟩)), (10, .pointer (some ⟨b3, 0, none⟩)), (11, .pointer (some ⟨b4, 0, none⟩)), (13, .pointer (some ⟨b7, 0, none⟩)), (32, .slice a17 (List.length s4.1) c17), (33, .int .i64 s4.2.1), (58, .slice (some ⟨b5, 0, none⟩) (List.length ([y1.2, o1])) 2), (59, .int .i64 (List.length ([y1.2, o1]) : Int)), (60, .int .i64 s1.1)] ∧ m.le m29 ∧ St m29 (.blk b2 (.cells #[.slice a18 (List.length s4.2.2.1) c18, .int .i64 s4.2.2.2] 35 (0, 0)) :: .blk b7 (.cells #[.slice a11 (List.length x1) c11] 24 (0, 0)) :: .blk b4 (.cells #[.slice a8 (List.length o1) c8] 24 (0, 0)) :: .blk b3 (.cells #[.slice a4 (List.length y1.2) c4] 24 (0, 0)) :: .room (some ⟨b5, 0, none⟩) (List.length ([y1.2, o1])) 2 24 1 :: .room a4 (List.length y1.2) c4 9 1 :: .room a17 (List.length s4.1) c17 3 1 :: own) w' ∧ RepS (cInt .i64) m29 a17 c17 s4.1 ∧ RepS (cSl cStr) m29 (some ⟨b5, 0, none⟩) 2 ([y1.2, o1]) ∧ RepS (cInt .i64) m29 a18 c18 s4.2.2.1 ∧ RepS cStr m29 a11 c11 x1 ∧ RepS cStr m29 a8 c8 o1 ∧ RepS cStr m29 a4 c4 y1.2) N ⟨(([] : List (Int)), y13.2, y13.1.1, y13.1.2), none, 0, a14, c14, m27, hr, rfl, hm, st, (RepS.nil _ _), r9, r17, r12, r8, r4⟩ ?_)
              clear st hr
              rintro k4 _ w41 ⟨s4, a17, c17, a18, c18, m29, hL, rfl, hm, st, r20, r9, r21, r12, r8, r4⟩
              rcases k4 with _ | k4
              · exact loopM_zero hL
              · obtain ⟨qu7, hr, hSu7, hBu7⟩ := loopM_succ hL
                clear hL
                unfold testgatelaw13_ContentsCalls_L4 at hr
                refine W_seq ?_
                refine W_seq ?_
                refine W_region ?_
                refine WO_seg 2 [(161, .bool (decide (s4.2.1 > 0)))] (by kernel_rfl) (by kernel_rfl) ?_
                refine WO_end rfl ?_
                refine X_then ?_
                refine W_cond (decide (s4.2.1 > 0)) (by kernel_rfl) ?_ ?_
                · intro hc
                  rw [if_pos hc] at hr
                  refine W_skip ?_
                  refine X_then ?_
                  refine W_seq ?_
                  refine W_block ?_
                  refine W_region ?_
                  refine WO_seg 3 [(164, .slice a17 (List.length s4.1) c17), (165, .pointer (some ⟨b2, 0, none⟩)), (166, .pointer (some ⟨b7, 0, none⟩))] (by kernel_rfl) (by kernel_rfl) ?_
                  refine WO_one rfl (One_load_own (d := 167) (t := 22) (x := (.tmp 166)) (.slice a11 (List.length x1) c11) (by kernel_rfl) rfl (show evL _ _ = some (.pointer (some ⟨b7, 0, none⟩)) from (by kernel_rfl)) st.tail.head (by kernel_rfl) ?_)
                  refine WO_seg 2 [(169, .int .i64 (IntKind.wrap .i64 ((List.length x1 : Int) + 1)))] (by kernel_rfl) (by kernel_rfl) ?_
                  replace hr := bindS hr
                  obtain ⟨y14, hx17, hr⟩ := hr
                  refine WO_one rfl (One_fn 170 25 #[.pointer (some ⟨b2, 0, none⟩), .int .i64 (IntKind.wrap .i64 ((List.length x1 : Int) + 1))] (by kernel_rfl) rfl ?_)
                  refine (testgatemake_Tape_Next_ok st r21 hx17).mono ?_
                  clear st
                  rintro _ w42 ⟨a19, c19, m30, rfl, hle19, st, r22⟩
                  refine ⟨_, rfl, ?_⟩
                  have hm := Mem.le_trans hm hle19
                  have r20 := r20.mono hle19
                  have r9 := r9.mono hle19
                  have r12 := r12.mono hle19
                  have r21 := r21.mono hle19
                  have r8 := r8.mono hle19
                  have r4 := r4.mono hle19
                  refine WO_one rfl (One_buildSlice (d := 171) (t := 32) (e := 3) (len := 1) (parts := #[(0, (.tmp 170))]) (cInt .i64) (xs := [y14.2]) [.int .i64 y14.2] (by kernel_rfl) rfl (fun _ => buildCells_run (by kernel_rfl) _) rfl rfl st ⟨[.int .i64 y14.2], _, rfl, rfl, rfl⟩ ?_)
                  clear st
                  intro b14 m31 w43 hle20 st r23
                  have hm := Mem.le_trans hm hle20
                  have r20 := r20.mono hle20
                  have r9 := r9.mono hle20
                  have r12 := r12.mono hle20
                  have r22 := r22.mono hle20
                  have r8 := r8.mono hle20
                  have r4 := r4.mono hle20
                  have st := st.front7
                  replace hr := bindS hr
                  obtain ⟨l1, hx18, hr⟩ := hr
                  refine WO_one rfl (One_append (d := 172) (t := 32) (u := 32) (e := 3) (by_ := 8) (x := (.tmp 164)) (y := (.tmp 171)) (cInt .i64) (by kernel_rfl) rfl (show evL _ _ = some (.slice a17 (List.length s4.1) c17) from (by kernel_rfl)) (show evL _ _ = some (.slice (some ⟨b14, 0, none⟩) (List.length ([y14.2])) 1) from (by kernel_rfl)) st (by kernel_rfl) (.inl (by kernel_rfl)) r20 r23.src hx18 ?_)
                  clear st
                  intro a20 c20 m32 w44 hle21 st r24
                  have hm := Mem.le_trans hm hle21
                  have r20 := r20.mono hle21
                  have r9 := r9.mono hle21
                  have r12 := r12.mono hle21
                  have r23 := r23.mono hle21
                  have r22 := r22.mono hle21
                  have r8 := r8.mono hle21
                  have r4 := r4.mono hle21
                  refine WO_seg 1 [(32, .slice a20 (List.length l1) c20)] (by kernel_rfl) (by kernel_rfl) ?_
                  refine WO_end rfl ?_
                  have st := st.front1
                  have st := st.tail
                  refine X_block ?_
                  refine X_then ?_
                  refine W_region ?_
                  refine WO_seg 3 [(33, .int .i64 (IntKind.wrap .i64 (s4.2.1 - 1)))] (by kernel_rfl) (by kernel_rfl) ?_
                  refine WO_end rfl ?_
                  obtain rfl := Option.some.inj hr
                  have hL := hSu7 _ rfl
                  have st := st.front6
                  have st := st.front6
                  have st := st.front6
                  have st := st.front6
                  have st := st.front6
                  have st := st.front6
                  exact X_env _ (by kernel_rfl) (X_round k4 (Nat.lt_succ_self _) ⟨(l1, IntKind.wrap .i64 (s4.2.1 - 1), y14.1.1, y14.1.2), a20, c20, a19, c19, m32, hL, rfl, hm, st, r24, r9, r22, r12, r8, r4⟩)
                · intro hc
                  rw [if_neg (not_true hc)] at hr
                  refine W_exit ?_
                  refine X_then_exit ?_
                  obtain rfl := Option.some.inj hr
                  have ho := hBu7 _ rfl
                  have st := st.front6
                  have st := st.front6
                  have st := st.front6
                  have st := st.front6
                  have st := st.front6
                  have st := st.front6
                  have st := st.front6
                  refine X_then_exit ?_
                  exact X_env _ (by kernel_rfl) (K6_u7 _ _ ⟨(s4.1, s4.2.2.1, s4.2.2.2), a17, c17, a18, c18, m29, ho, rfl, hm, st, r20, r9, r21, r12, r8, r4⟩)
            intro K4_u5
            have st := st.front6
            have st := st.front6
            have st := st.front2
            have st := st.front6
            have st := st.front6
            have st := st.front6
            have st := st.front6
            refine W_env _ (by kernel_rfl) (W_loop (fun k3 L' w' => ∃ (s3 : Int) (m23 : Mem), loopM (testgatelaw13_ContentsCalls_L3 N p3 x1) k3 s3 = some out3 ∧ L' = [(2, .string p2), (3, .int .i64 p3), (9, .pointer (some ⟨b2, 0, none⟩)), (10, .pointer (some ⟨b3, 0, none⟩)), (11, .pointer (some ⟨b4, 0, none⟩)), (13, .pointer (some ⟨b7, 0, none⟩)), (58, .slice (some ⟨b5, 0, none⟩) (List.length ([y1.2, o1])) 2), (59, .int .i64 (List.length ([y1.2, o1]) : Int)), (60, .int .i64 s1.1), (131, .slice (some ⟨b12, 0, none⟩) (List.length ([0, 1, (List.length x1 : Int), (-1), p3])) 5), (132, .int .i64 (List.length ([0, 1, (List.length x1 : Int), (-1), p3]) : Int)), (133, .int .i64 s3)] ∧ m.le m23 ∧ St m23 (.blk b7 (.cells #[.slice a11 (List.length x1) c11] 24 (0, 0)) :: .blk b2 (.cells #[.slice a10 (List.length s1.2.1) c10, .int .i64 s1.2.2] 35 (0, 0)) :: .blk b4 (.cells #[.slice a8 (List.length o1) c8] 24 (0, 0)) :: .blk b3 (.cells #[.slice a4 (List.length y1.2) c4] 24 (0, 0)) :: .room (some ⟨b12, 0, none⟩) (List.length ([0, 1, (List.length x1 : Int), (-1), p3])) 5 3 1 :: .room (some ⟨b5, 0, none⟩) (List.length ([y1.2, o1])) 2 24 1 :: .room a4 (List.length y1.2) c4 9 1 :: own) w' ∧ RepS (cSl cStr) m23 (some ⟨b5, 0, none⟩) 2 ([y1.2, o1]) ∧ RepS (cInt .i64) m23 (some ⟨b12, 0, none⟩) 5 ([0, 1, (List.length x1 : Int), (-1), p3]) ∧ RepS cStr m23 a11 c11 x1 ∧ RepS (cInt .i64) m23 a10 c10 s1.2.1 ∧ RepS cStr m23 a8 c8 o1 ∧ RepS cStr m23 a4 c4 y1.2) N ⟨0, m21, hr, rfl, hm, st, r9, r16, r12, r11, r8, r4⟩ ?_)
            clear st hr
            rintro k3 _ w35 ⟨s3, m23, hL, rfl, hm, st, r9, r16, r12, r11, r8, r4⟩
            rcases k3 with _ | k3
            · exact loopM_zero hL
            · obtain ⟨qu5, hr, hSu5, hBu5⟩ := loopM_succ hL
              clear hL
              unfold testgatelaw13_ContentsCalls_L3 at hr
              refine W_seq ?_
              refine W_region ?_
              refine WO_seg 1 [(134, .bool (decide (s3 < (List.length ([0, 1, (List.length x1 : Int), (-1), p3]) : Int))))] (by kernel_rfl) (by kernel_rfl) ?_
              refine WO_end rfl ?_
              refine X_then ?_
              refine W_seq ?_
              refine W_cond (decide (s3 < (List.length ([0, 1, (List.length x1 : Int), (-1), p3]) : Int))) (by kernel_rfl) ?_ ?_
              · intro hc
                rw [if_pos hc] at hr
                refine W_skip ?_
                refine X_then ?_
                refine W_seq ?_
                refine W_block ?_
                refine W_seq ?_
                refine W_region ?_
                replace hr := bindS hr
                obtain ⟨x3, hx13, hr⟩ := hr
                refine WO_one rfl (One_index (d := 135) (t := 32) (e := 3) (x := (.tmp 131)) (y := (.tmp 133)) (cInt .i64) (by kernel_rfl) rfl (show evL _ _ = some (.slice (some ⟨b12, 0, none⟩) (List.length ([0, 1, (List.length x1 : Int), (-1), p3])) 5) from (by kernel_rfl)) (show evL _ _ = some (.int .i64 s3) from (by kernel_rfl)) (by kernel_rfl) r16 hx13 ?_)
                rintro b13 f3 cs3 rfl hq3
                refine WO_one rfl (One_load_row (d := 136) (t := 3) (x := (.tmp 135)) (.int .i64 x3) (by kernel_rfl) rfl (show evL _ _ = some (.pointer (some ⟨b13, f3, none⟩)) from (by kernel_rfl)) st hq3 (by kernel_rfl) ?_)
                refine WO_seg 1 [(27, .int .i64 x3)] (by kernel_rfl) (by kernel_rfl) ?_
                refine WO_end rfl ?_
                refine X_then ?_
                refine W_seq ?_
                refine W_region ?_
                refine WO_one rfl (One_load_own (d := 138) (t := 24) (x := (.tmp 13)) (.agg #[.slice a11 (List.length x1) c11]) (by kernel_rfl) rfl (show evL _ _ = some (.pointer (some ⟨b7, 0, none⟩)) from (by kernel_rfl)) st.head (by kernel_rfl) ?_)
                refine WO_seg 1 [(139, .int .i64 x3)] (by kernel_rfl) (by kernel_rfl) ?_
                replace hr := bindS hr
                obtain ⟨y11, hx14, hr⟩ := hr
                refine WO_one rfl (One_fn 140 23 #[.agg #[.slice a11 (List.length x1) c11], .int .i64 x3] (by kernel_rfl) rfl ?_)
                refine (contents_Get_ok st r12 hx14).mono ?_
                clear st
                rintro _ w36 ⟨m24, rfl, hle16, st⟩
                refine ⟨_, rfl, ?_⟩
                have hm := Mem.le_trans hm hle16
                have r9 := r9.mono hle16
                have r16 := r16.mono hle16
                have r12 := r12.mono hle16
                have r11 := r11.mono hle16
                have r8 := r8.mono hle16
                have r4 := r4.mono hle16
                refine WO_seg 5 [(28, .string y11.1), (29, .int .i64 y11.2)] (by kernel_rfl) (by kernel_rfl) ?_
                refine WO_end rfl ?_
                refine X_then ?_
                refine W_seq ?_
                refine W_region ?_
                refine WO_one rfl (One_load_own (d := 144) (t := 24) (x := (.tmp 13)) (.agg #[.slice a11 (List.length x1) c11]) (by kernel_rfl) rfl (show evL _ _ = some (.pointer (some ⟨b7, 0, none⟩)) from (by kernel_rfl)) st.head (by kernel_rfl) ?_)
                refine WO_seg 1 [(145, .int .i64 x3)] (by kernel_rfl) (by kernel_rfl) ?_
                replace hr := bindS hr
                obtain ⟨y12, hx15, hr⟩ := hr
                refine WO_one rfl (One_fn 146 24 #[.agg #[.slice a11 (List.length x1) c11], .int .i64 x3] (by kernel_rfl) rfl ?_)
                refine (testgateref13_Get_ok st r12 hx15).mono ?_
                clear st
                rintro _ w37 ⟨m25, rfl, hle17, st⟩
                refine ⟨_, rfl, ?_⟩
                have hm := Mem.le_trans hm hle17
                have r9 := r9.mono hle17
                have r16 := r16.mono hle17
                have r12 := r12.mono hle17
                have r11 := r11.mono hle17
                have r8 := r8.mono hle17
                have r4 := r4.mono hle17
                refine WO_seg 5 [(30, .string y12.1), (31, .int .i64 y12.2)] (by kernel_rfl) (by kernel_rfl) ?_
                refine WO_end rfl ?_
                refine X_then ?_
                refine W_seq ?_
                refine W_region ?_
                replace hr := bindS hr
                obtain ⟨o6, hr, hrK⟩ := hr
                refine WO_cut (j := 8) (fun L' w' => ∃ (m26 : Mem), L' = [(2, .string p2), (3, .int .i64 p3), (9, .pointer (some ⟨b2, 0, none⟩)), (10, .pointer (some ⟨b3, 0, none⟩)), (11, .pointer (some ⟨b4, 0, none⟩)), (13, .pointer (some ⟨b7, 0, none⟩)), (58, .slice (some ⟨b5, 0, none⟩) (List.length ([y1.2, o1])) 2), (59, .int .i64 (List.length ([y1.2, o1]) : Int)), (60, .int .i64 s1.1), (131, .slice (some ⟨b12, 0, none⟩) (List.length ([0, 1, (List.length x1 : Int), (-1), p3])) 5), (132, .int .i64 (List.length ([0, 1, (List.length x1 : Int), (-1), p3]) : Int)), (133, .int .i64 s3), (156, .bool o6)] ∧ m.le m26 ∧ St m26 (.blk b7 (.cells #[.slice a11 (List.length x1) c11] 24 (0, 0)) :: .blk b2 (.cells #[.slice a10 (List.length s1.2.1) c10, .int .i64 s1.2.2] 35 (0, 0)) :: .blk b4 (.cells #[.slice a8 (List.length o1) c8] 24 (0, 0)) :: .blk b3 (.cells #[.slice a4 (List.length y1.2) c4] 24 (0, 0)) :: .room (some ⟨b12, 0, none⟩) (List.length ([0, 1, (List.length x1 : Int), (-1), p3])) 5 3 1 :: .room (some ⟨b5, 0, none⟩) (List.length ([y1.2, o1])) 2 24 1 :: .room a4 (List.length y1.2) c4 9 1 :: own) w' ∧ RepS (cSl cStr) m26 (some ⟨b5, 0, none⟩) 2 ([y1.2, o1]) ∧ RepS (cInt .i64) m26 (some ⟨b12, 0, none⟩) 5 ([0, 1, (List.length x1 : Int), (-1), p3]) ∧ RepS cStr m26 a11 c11 x1 ∧ RepS (cInt .i64) m26 a10 c10 s1.2.1 ∧ RepS cStr m26 a8 c8 o1 ∧ RepS cStr m26 a4 c4 y1.2) ?_ ?_
                · clear hr st
                  have hr := hrK
                  clear hrK
                  rintro _ w38 ⟨m26, rfl, hm, st, r9, r16, r12, r11, r8, r4⟩
                  refine WO_end rfl ?_
                  refine X_then ?_
                  refine W_cond o6 (by kernel_rfl) ?_ ?_
                  · intro hc
                    rw [if_pos hc] at hr
                    refine W_seq ?_
                    refine W_region ?_
                    refine WO_seg 1 [(8, .bool false)] (by kernel_rfl) (by kernel_rfl) ?_
                    refine WO_end rfl ?_
                    have st := st.front4
                    have st := st.tail
                    have st := st.front4
                    have st := st.tail
                    refine X_then ?_
                    refine W_ret ?_
                    refine X_block_ret ?_
                    refine X_then_ret ?_
                    obtain rfl := Option.some.inj hr
                    have ho := hBu5 _ rfl
                    subst ho
                    have hr := hrKu5
                    dsimp only at hr
                    refine X_then_ret ?_
                    refine X_block_ret ?_
                    refine X_then_ret ?_
                    refine X_block_ret ?_
                    refine X_then_ret ?_
                    obtain rfl := Option.some.inj hr
                    have ho := hBu2 _ rfl
                    subst ho
                    have hr := hrKu2
                    dsimp only at hr
                    refine X_then_ret ?_
                    refine X_block_ret ?_
                    refine X_then_ret ?_
                    obtain rfl := Option.some.inj hr
                    refine X_ret [.tmp 8] [.bool false] rfl (ResAll.cons (ResAt.tmp (by kernel_rfl)) ResAll.nil) ?_
                    have st := st.tail
                    have st := st.tail
                    have st := st.tail
                    have st := st.tail
                    have st := st.tail
                    exact ⟨m26, rfl, hm, st⟩
                  · intro hc
                    rw [if_neg (not_true hc)] at hr
                    refine W_skip ?_
                    refine X_block ?_
                    refine X_then ?_
                    refine W_region ?_
                    refine WO_seg 2 [(133, .int .i64 (IntKind.wrap .i64 (s3 + 1)))] (by kernel_rfl) (by kernel_rfl) ?_
                    refine WO_end rfl ?_
                    obtain rfl := Option.some.inj hr
                    have hL := hSu5 _ rfl
                    have st := st.front6
                    have st := st.front6
                    have st := st.front6
                    have st := st.front6
                    have st := st.front6
                    have st := st.front6
                    have st := st.front6
                    exact X_env _ (by kernel_rfl) (X_round k3 (Nat.lt_succ_self _) ⟨IntKind.wrap .i64 (s3 + 1), m26, hL, rfl, hm, st, r9, r16, r12, r11, r8, r4⟩)
                · intro K
                  clear hrK
                  refine WO_seg 4 [(152, .bool (!(y11.1.toList == y12.1.toList)))] (by kernel_rfl) (by kernel_rfl) ?_
                  rcases bcases (!(y11.1.toList == y12.1.toList)) with hc | hc
                  · rw [if_pos hc] at hr
                    refine WO_fact (t := 152) (b := true) (!(y11.1.toList == y12.1.toList)) (by kernel_rfl) hc ?_
                    refine WO_seg 4 [(156, .bool true)] (by kernel_rfl) (by kernel_rfl) ?_
                    obtain rfl := Option.some.inj hr
                    have st := st.front6
                    have st := st.front6
                    have st := st.front6
                    have st := st.front6
                    have st := st.front6
                    have st := st.front6
                    have st := st.front6
                    exact WO_env _ (by kernel_rfl) (K _ _ ⟨m25, rfl, hm, st, r9, r16, r12, r11, r8, r4⟩)
                  · rw [if_neg (not_true hc)] at hr
                    refine WO_fact (t := 152) (b := false) (!(y11.1.toList == y12.1.toList)) (by kernel_rfl) hc ?_
                    refine WO_seg 4 [(156, .bool (y11.2 != y12.2))] (by kernel_rfl) (by kernel_rfl) ?_
                    obtain rfl := Option.some.inj hr
                    have st := st.front6
                    have st := st.front6
                    have st := st.front6
                    have st := st.front6
                    have st := st.front6
                    have st := st.front6
                    have st := st.front6
                    exact WO_env _ (by kernel_rfl) (K _ _ ⟨m25, rfl, hm, st, r9, r16, r12, r11, r8, r4⟩)
              · intro hc
                rw [if_neg (not_true hc)] at hr
                refine W_exit ?_
                refine X_then_exit ?_
                obtain rfl := Option.some.inj hr
                have ho := hBu5 _ rfl
                have st := st.front6
                have st := st.front6
                have st := st.front6
                have st := st.front6
                have st := st.front6
                have st := st.front6
                have st := st.front6
                refine X_then_exit ?_
                exact X_env _ (by kernel_rfl) (K4_u5 _ _ ⟨(), m23, ho, rfl, hm, st, r9, r12, r11, r8, r4⟩)
          intro K2_u3
          have st := st.front6
          have st := st.front6
          have st := st.front2
          have st := st.front6
          have st := st.front6
          have st := st.front6
          have st := st.front6
          refine W_env _ (by kernel_rfl) (W_loop (fun k2 L' w' => ∃ (s2 : Int) (m14 : Mem), loopM (testgatelaw13_ContentsCalls_L2 N p2 x1) k2 s2 = some out2 ∧ L' = [(2, .string p2), (3, .int .i64 p3), (9, .pointer (some ⟨b2, 0, none⟩)), (10, .pointer (some ⟨b3, 0, none⟩)), (11, .pointer (some ⟨b4, 0, none⟩)), (13, .pointer (some ⟨b7, 0, none⟩)), (58, .slice (some ⟨b5, 0, none⟩) (List.length ([y1.2, o1])) 2), (59, .int .i64 (List.length ([y1.2, o1]) : Int)), (60, .int .i64 s1.1), (70, .slice (some ⟨b8, 0, none⟩) (List.length ([(⟨#[97]⟩ : ByteArray), (⟨#[]⟩ : ByteArray), (⟨#[97, 98]⟩ : ByteArray), p2])) 4), (71, .int .i64 (List.length ([(⟨#[97]⟩ : ByteArray), (⟨#[]⟩ : ByteArray), (⟨#[97, 98]⟩ : ByteArray), p2]) : Int)), (72, .int .i64 s2)] ∧ m.le m14 ∧ St m14 (.blk b7 (.cells #[.slice a11 (List.length x1) c11] 24 (0, 0)) :: .blk b2 (.cells #[.slice a10 (List.length s1.2.1) c10, .int .i64 s1.2.2] 35 (0, 0)) :: .blk b4 (.cells #[.slice a8 (List.length o1) c8] 24 (0, 0)) :: .blk b3 (.cells #[.slice a4 (List.length y1.2) c4] 24 (0, 0)) :: .room (some ⟨b8, 0, none⟩) (List.length ([(⟨#[97]⟩ : ByteArray), (⟨#[]⟩ : ByteArray), (⟨#[97, 98]⟩ : ByteArray), p2])) 4 9 1 :: .room (some ⟨b5, 0, none⟩) (List.length ([y1.2, o1])) 2 24 1 :: .room a4 (List.length y1.2) c4 9 1 :: own) w' ∧ RepS (cSl cStr) m14 (some ⟨b5, 0, none⟩) 2 ([y1.2, o1]) ∧ RepS cStr m14 (some ⟨b8, 0, none⟩) 4 ([(⟨#[97]⟩ : ByteArray), (⟨#[]⟩ : ByteArray), (⟨#[97, 98]⟩ : ByteArray), p2]) ∧ RepS cStr m14 a11 c11 x1 ∧ RepS (cInt .i64) m14 a10 c10 s1.2.1 ∧ RepS cStr m14 a8 c8 o1 ∧ RepS cStr m14 a4 c4 y1.2) N ⟨0, m12, hr, rfl, hm, st, r9, r13, r12, r11, r8, r4⟩ ?_)
          clear st hr
          rintro k2 _ w22 ⟨s2, m14, hL, rfl, hm, st, r9, r13, r12, r11, r8, r4⟩
          rcases k2 with _ | k2
          · exact loopM_zero hL
          · obtain ⟨qu3, hr, hSu3, hBu3⟩ := loopM_succ hL
            clear hL
            unfold testgatelaw13_ContentsCalls_L2 at hr
            refine W_seq ?_
            refine W_region ?_
            refine WO_seg 1 [(73, .bool (decide (s2 < (List.length ([(⟨#[97]⟩ : ByteArray), (⟨#[]⟩ : ByteArray), (⟨#[97, 98]⟩ : ByteArray), p2]) : Int))))] (by kernel_rfl) (by kernel_rfl) ?_
            refine WO_end rfl ?_
            refine X_then ?_
            refine W_seq ?_
            refine W_cond (decide (s2 < (List.length ([(⟨#[97]⟩ : ByteArray), (⟨#[]⟩ : ByteArray), (⟨#[97, 98]⟩ : ByteArray), p2]) : Int))) (by kernel_rfl) ?_ ?_
            · intro hc
              rw [if_pos hc] at hr
              refine W_skip ?_
              refine X_then ?_
              refine W_seq ?_
              refine W_block ?_
              refine W_seq ?_
              refine W_region ?_
              replace hr := bindS hr
              obtain ⟨x2, hx7, hr⟩ := hr
              refine WO_one rfl (One_index (d := 74) (t := 22) (e := 9) (x := (.tmp 70)) (y := (.tmp 72)) cStr (by kernel_rfl) rfl (show evL _ _ = some (.slice (some ⟨b8, 0, none⟩) (List.length ([(⟨#[97]⟩ : ByteArray), (⟨#[]⟩ : ByteArray), (⟨#[97, 98]⟩ : ByteArray), p2])) 4) from (by kernel_rfl)) (show evL _ _ = some (.int .i64 s2) from (by kernel_rfl)) (by kernel_rfl) r13 hx7 ?_)
              rintro b9 f2 cs2 rfl hq2
              refine WO_one rfl (One_load_row (d := 75) (t := 9) (x := (.tmp 74)) (.string x2) (by kernel_rfl) rfl (show evL _ _ = some (.pointer (some ⟨b9, f2, none⟩)) from (by kernel_rfl)) st hq2 (by kernel_rfl) ?_)
              refine WO_seg 1 [(15, .string x2)] (by kernel_rfl) (by kernel_rfl) ?_
              refine WO_end rfl ?_
              refine X_then ?_
              refine W_seq ?_
              refine W_region ?_
              refine WO_one rfl (One_load_own (d := 77) (t := 24) (x := (.tmp 13)) (.agg #[.slice a11 (List.length x1) c11]) (by kernel_rfl) rfl (show evL _ _ = some (.pointer (some ⟨b7, 0, none⟩)) from (by kernel_rfl)) st.head (by kernel_rfl) ?_)
              refine WO_seg 1 [(78, .string x2)] (by kernel_rfl) (by kernel_rfl) ?_
              replace hr := bindS hr
              obtain ⟨y6, hx8, hr⟩ := hr
              refine WO_one rfl (One_fn 79 19 #[.agg #[.slice a11 (List.length x1) c11], .string x2] (by kernel_rfl) rfl ?_)
              refine (contents_Find_ok st r12 hx8).mono ?_
              clear st
              rintro _ w23 ⟨m15, rfl, hle10, st⟩
              refine ⟨_, rfl, ?_⟩
              have hm := Mem.le_trans hm hle10
              have r9 := r9.mono hle10
              have r13 := r13.mono hle10
              have r12 := r12.mono hle10
              have r11 := r11.mono hle10
              have r8 := r8.mono hle10
              have r4 := r4.mono hle10
              refine WO_seg 5 [(16, .int .i64 y6.1), (17, .bool y6.2)] (by kernel_rfl) (by kernel_rfl) ?_
              refine WO_end rfl ?_
              refine X_then ?_
              refine W_seq ?_
              refine W_region ?_
              refine WO_one rfl (One_load_own (d := 83) (t := 24) (x := (.tmp 13)) (.agg #[.slice a11 (List.length x1) c11]) (by kernel_rfl) rfl (show evL _ _ = some (.pointer (some ⟨b7, 0, none⟩)) from (by kernel_rfl)) st.head (by kernel_rfl) ?_)
              refine WO_seg 1 [(84, .string x2)] (by kernel_rfl) (by kernel_rfl) ?_
              replace hr := bindS hr
              obtain ⟨y7, hx9, hr⟩ := hr
              refine WO_one rfl (One_fn 85 20 #[.agg #[.slice a11 (List.length x1) c11], .string x2] (by kernel_rfl) rfl ?_)
              refine (testgateref13_Find_ok st r12 hx9).mono ?_
              clear st
              rintro _ w24 ⟨m16, rfl, hle11, st⟩
              refine ⟨_, rfl, ?_⟩
              have hm := Mem.le_trans hm hle11
              have r9 := r9.mono hle11
              have r13 := r13.mono hle11
              have r12 := r12.mono hle11
              have r11 := r11.mono hle11
              have r8 := r8.mono hle11
              have r4 := r4.mono hle11
              refine WO_seg 5 [(18, .int .i64 y7.1), (19, .bool y7.2)] (by kernel_rfl) (by kernel_rfl) ?_
              refine WO_end rfl ?_
              refine X_then ?_
              refine W_seq ?_
              refine W_region ?_
              refine WO_one rfl (One_load_own (d := 89) (t := 24) (x := (.tmp 13)) (.agg #[.slice a11 (List.length x1) c11]) (by kernel_rfl) rfl (show evL _ _ = some (.pointer (some ⟨b7, 0, none⟩)) from (by kernel_rfl)) st.head (by kernel_rfl) ?_)
              refine WO_seg 1 [(90, .string x2)] (by kernel_rfl) (by kernel_rfl) ?_
              replace hr := bindS hr
              obtain ⟨y8, hx10, hr⟩ := hr
              refine WO_one rfl (One_fn 91 13 #[.agg #[.slice a11 (List.length x1) c11], .string x2] (by kernel_rfl) rfl ?_)
              refine (contents_Put_ok st r12 hx10).mono ?_
              clear st
              rintro _ w25 ⟨a12, c12, m17, rfl, hle12, st, r14⟩
              refine ⟨_, rfl, ?_⟩
              have hm := Mem.le_trans hm hle12
              have r9 := r9.mono hle12
              have r13 := r13.mono hle12
              have r12 := r12.mono hle12
              have r11 := r11.mono hle12
              have r8 := r8.mono hle12
              have r4 := r4.mono hle12
              refine WO_seg 4 [(92, .agg #[.slice a12 (List.length y8.1) c12]), (93, .int .i64 y8.2.1), (94, .int .i64 y8.2.2)] (by kernel_rfl) (by kernel_rfl) ?_
              refine WO_one rfl (One_alloc (d := 20) (e := 24) (.agg #[.slice none 0 0]) (by kernel_rfl) rfl (by kernel_rfl) st ?_)
              clear st
              intro b10 w26 st
              refine WO_one rfl (One_store (t := 24) (x := (.tmp 20)) (y := (.tmp 92)) (v := .agg #[.slice a12 (List.length y8.1) c12]) (c' := #[.slice a12 (List.length y8.1) c12]) (by kernel_rfl) (show evL _ _ = some (.pointer (some ⟨b10, 0, none⟩)) from (by kernel_rfl)) (show evL _ _ = some (.agg #[.slice a12 (List.length y8.1) c12]) from (by kernel_rfl)) st (by kernel_rfl) (by kernel_rfl) ?_)
              clear st
              intro w27 st
              refine WO_seg 2 [(21, .int .i64 y8.2.1), (22, .int .i64 y8.2.2)] (by kernel_rfl) (by kernel_rfl) ?_
              refine WO_end rfl ?_
              refine X_then ?_
              refine W_seq ?_
              refine W_region ?_
              refine WO_one rfl (One_load_own (d := 96) (t := 24) (x := (.tmp 13)) (.agg #[.slice a11 (List.length x1) c11]) (by kernel_rfl) rfl (show evL _ _ = some (.pointer (some ⟨b7, 0, none⟩)) from (by kernel_rfl)) st.tail.tail.head (by kernel_rfl) ?_)
              refine WO_seg 1 [(97, .string x2)] (by kernel_rfl) (by kernel_rfl) ?_
              replace hr := bindS hr
              obtain ⟨y9, hx11, hr⟩ := hr
              refine WO_one rfl (One_fn 98 21 #[.agg #[.slice a11 (List.length x1) c11], .string x2] (by kernel_rfl) rfl ?_)
              refine (testgateref13_Put_ok st r12 hx11).mono ?_
              clear st
              rintro _ w28 ⟨a13, c13, m18, rfl, hle13, st, r15⟩
              refine ⟨_, rfl, ?_⟩
              have hm := Mem.le_trans hm hle13
              have r9 := r9.mono hle13
              have r13 := r13.mono hle13
              have r12 := r12.mono hle13
              have r14 := r14.mono hle13
              have r11 := r11.mono hle13
              have r8 := r8.mono hle13
              have r4 := r4.mono hle13
              refine WO_seg 4 [(99, .agg #[.slice a13 (List.length y9.1) c13]), (100, .int .i64 y9.2.1), (101, .int .i64 y9.2.2)] (by kernel_rfl) (by kernel_rfl) ?_
              refine WO_one rfl (One_alloc (d := 23) (e := 24) (.agg #[.slice none 0 0]) (by kernel_rfl) rfl (by kernel_rfl) st ?_)
              clear st
              intro b11 w29 st
              refine WO_one rfl (One_store (t := 24) (x := (.tmp 23)) (y := (.tmp 99)) (v := .agg #[.slice a13 (List.length y9.1) c13]) (c' := #[.slice a13 (List.length y9.1) c13]) (by kernel_rfl) (show evL _ _ = some (.pointer (some ⟨b11, 0, none⟩)) from (by kernel_rfl)) (show evL _ _ = some (.agg #[.slice a13 (List.length y9.1) c13]) from (by kernel_rfl)) st (by kernel_rfl) (by kernel_rfl) ?_)
              clear st
              intro w30 st
              refine WO_seg 2 [(24, .int .i64 y9.2.1), (25, .int .i64 y9.2.2)] (by kernel_rfl) (by kernel_rfl) ?_
              refine WO_end rfl ?_
              refine X_then ?_
              refine W_seq ?_
              refine W_region ?_
              replace hr := bindS hr
              obtain ⟨o4, hr, hrK⟩ := hr
              refine WO_cut (j := 24) (fun L' w' => ∃ (m19 : Mem), L' = [(2, .string p2), (3, .int .i64 p3), (9, .pointer (some ⟨b2, 0, none⟩)), (10, .pointer (some ⟨b3, 0, none⟩)), (11, .pointer (some ⟨b4, 0, none⟩)), (13, .pointer (some ⟨b7, 0, none⟩)), (58, .slice (some ⟨b5, 0, none⟩) (List.length ([y1.2, o1])) 2), (59, .int .i64 (List.length ([y1.2, o1]) : Int)), (60, .int .i64 s1.1), (70, .slice (some ⟨b8, 0, none⟩) (List.length ([(⟨#[97]⟩ : ByteArray), (⟨#[]⟩ : ByteArray), (⟨#[97, 98]⟩ : ByteArray), p2])) 4), (71, .int .i64 (List.length ([(⟨#[97]⟩ : ByteArray), (⟨#[]⟩ : ByteArray), (⟨#[97, 98]⟩ : ByteArray), p2]) : Int)), (72, .int .i64 s2), (125, .bool o4)] ∧ m.le m19 ∧ St m19 (.blk b11 (.cells #[.slice a13 (List.length y9.1) c13] 24 (0, 0)) :: .blk b10 (.cells #[.slice a12 (List.length y8.1) c12] 24 (0, 0)) :: .blk b7 (.cells #[.slice a11 (List.length x1) c11] 24 (0, 0)) :: .blk b2 (.cells #[.slice a10 (List.length s1.2.1) c10, .int .i64 s1.2.2] 35 (0, 0)) :: .blk b4 (.cells #[.slice a8 (List.length o1) c8] 24 (0, 0)) :: .blk b3 (.cells #[.slice a4 (List.length y1.2) c4] 24 (0, 0)) :: .room a13 (List.length y9.1) c13 9 1 :: .room a12 (List.length y8.1) c12 9 1 :: .room (some ⟨b8, 0, none⟩) (List.length ([(⟨#[97]⟩ : ByteArray), (⟨#[]⟩ : ByteArray), (⟨#[97, 98]⟩ : ByteArray), p2])) 4 9 1 :: .room (some ⟨b5, 0, none⟩) (List.length ([y1.2, o1])) 2 24 1 :: .room a4 (List.length y1.2) c4 9 1 :: own) w' ∧ RepS (cSl cStr) m19 (some ⟨b5, 0, none⟩) 2 ([y1.2, o1]) ∧ RepS cStr m19 (some ⟨b8, 0, none⟩) 4 ([(⟨#[97]⟩ : ByteArray), (⟨#[]⟩ : ByteArray), (⟨#[97, 98]⟩ : ByteArray), p2]) ∧ RepS cStr m19 a13 c13 y9.1 ∧ RepS cStr m19 a12 c12 y8.1 ∧ RepS cStr m19 a11 c11 x1 ∧ RepS (cInt .i64) m19 a10 c10 s1.2.1 ∧ RepS cStr m19 a8 c8 o1 ∧ RepS cStr m19 a4 c4 y1.2) ?_ ?_
              · clear hr st
                have hr := hrK
                clear hrK
                rintro _ w31 ⟨m19, rfl, hm, st, r9, r13, r15, r14, r12, r11, r8, r4⟩
                refine WO_end rfl ?_
                refine X_then ?_
                refine W_cond o4 (by kernel_rfl) ?_ ?_
                · intro hc
                  rw [if_pos hc] at hr
                  refine W_seq ?_
                  refine W_region ?_
                  refine WO_seg 1 [(8, .bool false)] (by kernel_rfl) (by kernel_rfl) ?_
                  refine WO_end rfl ?_
                  have st := st.front8
                  have st := st.tail
                  have st := st.front8
                  have st := st.tail
                  refine X_then ?_
                  refine W_ret ?_
                  refine X_block_ret ?_
                  refine X_then_ret ?_
                  obtain rfl := Option.some.inj hr
                  have ho := hBu3 _ rfl
                  subst ho
                  have hr := hrKu3
                  dsimp only at hr
                  refine X_then_ret ?_
                  refine X_block_ret ?_
                  refine X_then_ret ?_
                  refine X_block_ret ?_
                  refine X_then_ret ?_
                  obtain rfl := Option.some.inj hr
                  have ho := hBu2 _ rfl
                  subst ho
                  have hr := hrKu2
                  dsimp only at hr
                  refine X_then_ret ?_
                  refine X_block_ret ?_
                  refine X_then_ret ?_
                  obtain rfl := Option.some.inj hr
                  refine X_ret [.tmp 8] [.bool false] rfl (ResAll.cons (ResAt.tmp (by kernel_rfl)) ResAll.nil) ?_
                  have st := st.tail
                  have st := st.tail
                  have st := st.tail
                  have st := st.tail
                  have st := st.tail
                  have st := st.tail
                  have st := st.tail
                  have st := st.tail
                  have st := st.tail
                  exact ⟨m19, rfl, hm, st⟩
                · intro hc
                  rw [if_neg (not_true hc)] at hr
                  refine W_skip ?_
                  refine X_block ?_
                  refine X_then ?_
                  refine W_region ?_
                  refine WO_seg 2 [(72, .int .i64 (IntKind.wrap .i64 (s2 + 1)))] (by kernel_rfl) (by kernel_rfl) ?_
                  refine WO_end rfl ?_
                  obtain rfl := Option.some.inj hr
                  have hL := hSu3 _ rfl
                  have st := st.tail
                  have st := st.tail
                  have st := st.front4
                  have st := st.tail
                  have st := st.front4
                  have st := st.tail
                  have st := st.front6
                  have st := st.front6
                  have st := st.front6
                  have st := st.front6
                  have st := st.front6
                  have st := st.front6
                  have st := st.front6
                  exact X_env _ (by kernel_rfl) (X_round k2 (Nat.lt_succ_self _) ⟨IntKind.wrap .i64 (s2 + 1), m19, hL, rfl, hm, st, r9, r13, r12, r11, r8, r4⟩)
              · intro K
                clear hrK
                refine WO_seg 4 [(105, .bool (y6.1 != y7.1))] (by kernel_rfl) (by kernel_rfl) ?_
                rcases bcases (y6.1 != y7.1) with hc | hc
                · rw [if_pos hc] at hr
                  refine WO_fact (t := 105) (b := true) (y6.1 != y7.1) (by kernel_rfl) hc ?_
                  refine WO_seg 20 [(125, .bool true)] (by kernel_rfl) (by kernel_rfl) ?_
                  obtain rfl := Option.some.inj hr
                  have st := st.front10
                  have st := st.front10
                  have st := st.front10
                  have st := st.front6
                  have st := st.front5
                  have st := st.front10
                  have st := st.front10
                  have st := st.front10
                  have st := st.front10
                  have st := st.front10
                  have st := st.front10
                  exact WO_env _ (by kernel_rfl) (K _ _ ⟨m18, rfl, hm, st, r9, r13, r15, r14, r12, r11, r8, r4⟩)
                · rw [if_neg (not_true hc)] at hr
                  refine WO_fact (t := 105) (b := false) (y6.1 != y7.1) (by kernel_rfl) hc ?_
                  refine WO_seg 5 [(110, .bool (!(y6.2 == y7.2)))] (by kernel_rfl) (by kernel_rfl) ?_
                  rcases bcases (!(y6.2 == y7.2)) with hc | hc
                  · rw [if_pos hc] at hr
                    refine WO_fact (t := 110) (b := true) (!(y6.2 == y7.2)) (by kernel_rfl) hc ?_
                    refine WO_seg 15 [(125, .bool true)] (by kernel_rfl) (by kernel_rfl) ?_
                    obtain rfl := Option.some.inj hr
                    have st := st.front10
                    have st := st.front10
                    have st := st.front10
                    have st := st.front6
                    have st := st.front5
                    have st := st.front10
                    have st := st.front10
                    have st := st.front10
                    have st := st.front10
                    have st := st.front10
                    have st := st.front10
                    exact WO_env _ (by kernel_rfl) (K _ _ ⟨m18, rfl, hm, st, r9, r13, r15, r14, r12, r11, r8, r4⟩)
                  · rw [if_neg (not_true hc)] at hr
                    refine WO_fact (t := 110) (b := false) (!(y6.2 == y7.2)) (by kernel_rfl) hc ?_
                    refine WO_seg 5 [(115, .bool (y8.2.1 != y9.2.1))] (by kernel_rfl) (by kernel_rfl) ?_
                    rcases bcases (y8.2.1 != y9.2.1) with hc | hc
                    · rw [if_pos hc] at hr
                      refine WO_fact (t := 115) (b := true) (y8.2.1 != y9.2.1) (by kernel_rfl) hc ?_
                      refine WO_seg 10 [(125, .bool true)] (by kernel_rfl) (by kernel_rfl) ?_
                      obtain rfl := Option.some.inj hr
                      have st := st.front10
                      have st := st.front10
                      have st := st.front10
                      have st := st.front6
                      have st := st.front5
                      have st := st.front10
                      have st := st.front10
                      have st := st.front10
                      have st := st.front10
                      have st := st.front10
                      have st := st.front10
                      exact WO_env _ (by kernel_rfl) (K _ _ ⟨m18, rfl, hm, st, r9, r13, r15, r14, r12, r11, r8, r4⟩)
                    · rw [if_neg (not_true hc)] at hr
                      refine WO_fact (t := 115) (b := false) (y8.2.1 != y9.2.1) (by kernel_rfl) hc ?_
                      refine WO_seg 5 [(120, .bool (y8.2.2 != y9.2.2))] (by kernel_rfl) (by kernel_rfl) ?_
                      rcases bcases (y8.2.2 != y9.2.2) with hc | hc
                      · rw [if_pos hc] at hr
                        refine WO_fact (t := 120) (b := true) (y8.2.2 != y9.2.2) (by kernel_rfl) hc ?_
                        refine WO_seg 5 [(125, .bool true)] (by kernel_rfl) (by kernel_rfl) ?_
                        obtain rfl := Option.some.inj hr
                        have st := st.front10
                        have st := st.front10
                        have st := st.front10
                        have st := st.front6
                        have st := st.front5
                        have st := st.front10
                        have st := st.front10
                        have st := st.front10
                        have st := st.front10
                        have st := st.front10
                        have st := st.front10
                        exact WO_env _ (by kernel_rfl) (K _ _ ⟨m18, rfl, hm, st, r9, r13, r15, r14, r12, r11, r8, r4⟩)
                      · rw [if_neg (not_true hc)] at hr
                        refine WO_fact (t := 120) (b := false) (y8.2.2 != y9.2.2) (by kernel_rfl) hc ?_
                        refine WO_one rfl (One_load_own (d := 121) (t := 24) (x := (.tmp 20)) (.agg #[.slice a12 (List.length y8.1) c12]) (by kernel_rfl) rfl (show evL _ _ = some (.pointer (some ⟨b10, 0, none⟩)) from (by kernel_rfl)) st.tail.tail.head (by kernel_rfl) ?_)
                        refine WO_one rfl (One_load_own (d := 122) (t := 24) (x := (.tmp 23)) (.agg #[.slice a13 (List.length y9.1) c13]) (by kernel_rfl) rfl (show evL _ _ = some (.pointer (some ⟨b11, 0, none⟩)) from (by kernel_rfl)) st.head (by kernel_rfl) ?_)
                        replace hr := bindS hr
                        obtain ⟨y10, hx12, hr⟩ := hr
                        refine WO_one rfl (One_fn 123 22 #[.agg #[.slice a12 (List.length y8.1) c12], .agg #[.slice a13 (List.length y9.1) c13]] (by kernel_rfl) rfl ?_)
                        refine (testgateref13_Same_ok st r14 r15 hx12).mono ?_
                        clear st
                        rintro _ w32 ⟨m20, rfl, hle14, st⟩
                        refine ⟨_, rfl, ?_⟩
                        have hm := Mem.le_trans hm hle14
                        have r9 := r9.mono hle14
                        have r13 := r13.mono hle14
                        have r14 := r14.mono hle14
                        have r15 := r15.mono hle14
                        have r12 := r12.mono hle14
                        have r11 := r11.mono hle14
                        have r8 := r8.mono hle14
                        have r4 := r4.mono hle14
                        refine WO_seg 2 [(125, .bool (!y10))] (by kernel_rfl) (by kernel_rfl) ?_
                        obtain rfl := Option.some.inj hr
                        have st := st.front10
                        have st := st.front10
                        have st := st.front10
                        have st := st.front6
                        have st := st.front5
                        have st := st.front10
                        have st := st.front10
                        have st := st.front10
                        have st := st.front10
                        have st := st.front10
                        have st := st.front10
                        exact WO_env _ (by kernel_rfl) (K _ _ ⟨m20, rfl, hm, st, r9, r13, r15, r14, r12, r11, r8, r4⟩)
            · intro hc
              rw [if_neg (not_true hc)] at hr
              refine W_exit ?_
              refine X_then_exit ?_
              obtain rfl := Option.some.inj hr
              have ho := hBu3 _ rfl
              have st := st.front6
              have st := st.front6
              have st := st.front6
              have st := st.front6
              have st := st.front6
              have st := st.front6
              have st := st.front6
              refine X_then_exit ?_
              exact X_env _ (by kernel_rfl) (K2_u3 _ _ ⟨(), m14, ho, rfl, hm, st, r9, r12, r11, r8, r4⟩)
      · intro hc
        rw [if_neg (not_true hc)] at hr
        refine W_exit ?_
        refine X_then_exit ?_
        obtain rfl := Option.some.inj hr
        have ho := hBu2 _ rfl
        have st := st.front4
        have st := st.front4
        have st := st.front4
        have st := st.front4
        have st := st.front4
        refine X_then_exit ?_
        exact X_env _ (by kernel_rfl) (K0_u2 _ _ ⟨(s1.2.1, s1.2.2), a10, c10, m9, ho, rfl, hm, st, r11, r8, r4⟩)
  · intro Ku1
    clear hrKu1
    refine W_cond y3.2 (by kernel_rfl) ?_ ?_
    · intro hc
      rw [if_pos hc] at hr
      refine W_region ?_
      refine WO_one rfl (One_load_row (d := 55) (t := 24) (x := (.tmp 5)) (.agg #[.slice a2 (List.length p1) c2]) (by kernel_rfl) rfl (show evL _ _ = some (.pointer (some ⟨b1, 0, none⟩)) from (by kernel_rfl)) st hb1 (by kernel_rfl) ?_)
      have st := st.front1
      refine WO_one rfl (One_store (t := 24) (x := (.tmp 11)) (y := (.tmp 55)) (v := .agg #[.slice a2 (List.length p1) c2]) (c' := #[.slice a2 (List.length p1) c2]) (by kernel_rfl) (show evL _ _ = some (.pointer (some ⟨b4, 0, none⟩)) from (by kernel_rfl)) (show evL _ _ = some (.agg #[.slice a2 (List.length p1) c2]) from (by kernel_rfl)) st (by kernel_rfl) (by kernel_rfl) ?_)
      clear st
      intro w11 st
      refine WO_end rfl ?_
      have st := st.front3
      have st := st.tail
      obtain rfl := Option.some.inj hr
      have st := st.front3
      have st := st.front3
      have st := st.front2
      have st := st.front3
      exact X_env _ (by kernel_rfl) (Ku1 _ _ ⟨a2, c2, m5, rfl, hm, st, r7, r2, r4⟩)
    · intro hc
      rw [if_neg (not_true hc)] at hr
      refine W_skip ?_
      obtain rfl := Option.some.inj hr
      have st := st.front3
      have st := st.tail
      have st := st.front3
      have st := st.front3
      have st := st.front3
      have st := st.front3
      exact X_env _ (by kernel_rfl) (Ku1 _ _ ⟨a6, c6, m5, rfl, hm, st, r7, r6, r4⟩)

def testgateref03_Int (N : Nat) (p0 : List UInt8) (p1 : Int) : Option (Int × Int × Int) :=
  (testgateref03_Uint N p0 p1).bind fun y1 => if (y1.2.2 != 0) = true then (some (0, 0, y1.2.2)) else (if ((Int.tmod y1.1 2) == 0) = true then (some (IntKind.wrap .i64 (IntKind.wrap .u64 (Int.tdiv y1.1 2)), y1.2.1, 0)) else (some (IntKind.wrap .i64 ((IntKind.wrap .i64 (0 - (IntKind.wrap .i64 (IntKind.wrap .u64 (Int.tdiv y1.1 2))))) - 1), y1.2.1, 0)))

set_option maxHeartbeats 4000000 in
set_option maxRecDepth 100000 in
theorem testgateref03_Int_ok {N : Nat} {m : Mem} {own : List Piece} {w : World} {p0 : List UInt8} {p1 : Int} {a1 : Option Addr} {c1 : Nat} {r : Int × Int × Int} (st : St m (own) w) (r1 : RepS cU8 m a1 c1 p0) (hr : testgateref03_Int N p0 p1 = some r) : Calls Go.Proofs.Try.prog 52 #[.slice a1 (List.length p0) c1, .int .i64 p1] w fun e w' => ∃ (m' : Mem), e = .returned (.tuple #[.int .i64 r.1, .int .i64 r.2.1, .int .i64 r.2.2]) ∧ m.le m' ∧ St m' (own) w' := by
  unfold testgateref03_Int at hr
  have hm := m.le_refl
  refine W_calls Go.Proofs.Try.func52 rfl Go.Proofs.Try.ntmps52 [(0, .slice a1 (List.length p0) c1), (1, .int .i64 p1)] (by kernel_rfl) rfl ?_
  refine W_seq ?_
  refine W_region ?_
  refine WO_seg 3 [] (by kernel_rfl) (by kernel_rfl) ?_
  refine WO_end rfl ?_
  refine X_then ?_
  refine W_seq ?_
  refine W_region ?_
  refine WO_seg 2 [(9, .slice a1 (List.length p0) c1), (10, .int .i64 p1)] (by kernel_rfl) (by kernel_rfl) ?_
  replace hr := bindS hr
  obtain ⟨y1, hx1, hr⟩ := hr
  refine WO_one rfl (One_fn 11 50 #[.slice a1 (List.length p0) c1, .int .i64 p1] (by kernel_rfl) rfl ?_)
  refine (testgateref03_Uint_ok st r1 hx1).mono ?_
  clear st
  rintro _ w1 ⟨m1, rfl, hle1, st⟩
  refine ⟨_, rfl, ?_⟩
  have hm := Mem.le_trans hm hle1
  have r1 := r1.mono hle1
  refine WO_seg 7 [(7, .int .u64 y1.1), (5, .int .i64 y1.2.1), (6, .int .i64 y1.2.2)] (by kernel_rfl) (by kernel_rfl) ?_
  refine WO_end rfl ?_
  refine X_then ?_
  refine W_seq ?_
  refine W_seq ?_
  refine W_region ?_
  refine WO_seg 2 [(16, .bool (y1.2.2 != 0))] (by kernel_rfl) (by kernel_rfl) ?_
  refine WO_end rfl ?_
  refine X_then ?_
  refine W_cond (y1.2.2 != 0) (by kernel_rfl) ?_ ?_
  · intro hc
    rw [if_pos hc] at hr
    refine W_seq ?_
    refine W_region ?_
    refine WO_seg 4 [(4, .int .i64 0), (5, .int .i64 0), (6, .int .i64 y1.2.2)] (by kernel_rfl) (by kernel_rfl) ?_
    refine WO_end rfl ?_
    refine X_then ?_
    refine W_ret ?_
    refine X_then_ret ?_
    obtain rfl := Option.some.inj hr
    refine X_ret [.tmp 4, .tmp 5, .tmp 6] [.int .i64 0, .int .i64 0, .int .i64 y1.2.2] rfl (ResAll.cons (ResAt.tmp (by kernel_rfl)) (ResAll.cons (ResAt.tmp (by kernel_rfl)) (ResAll.cons (ResAt.tmp (by kernel_rfl)) ResAll.nil))) ?_
    exact ⟨m1, rfl, hm, st⟩
  · intro hc
    rw [if_neg (not_true hc)] at hr
    refine W_skip ?_
    refine X_then ?_
    refine W_seq ?_
    refine W_seq ?_
    refine W_region ?_
    refine WO_seg 3 [(20, .bool ((Int.tmod y1.1 2) == 0))] (by kernel_rfl) (by kernel_rfl) ?_
    refine WO_end rfl ?_
    refine X_then ?_
    refine W_cond ((Int.tmod y1.1 2) == 0) (by kernel_rfl) ?_ ?_
    · intro hc
      rw [if_pos hc] at hr
      refine W_seq ?_
      refine W_region ?_
      refine WO_seg 7 [(4, .int .i64 (IntKind.wrap .i64 (IntKind.wrap .u64 (Int.tdiv y1.1 2)))), (5, .int .i64 y1.2.1), (6, .int .i64 0)] (by kernel_rfl) (by kernel_rfl) ?_
      refine WO_end rfl ?_
      refine X_then ?_
      refine W_ret ?_
      refine X_then_ret ?_
      obtain rfl := Option.some.inj hr
      refine X_ret [.tmp 4, .tmp 5, .tmp 6] [.int .i64 (IntKind.wrap .i64 (IntKind.wrap .u64 (Int.tdiv y1.1 2))), .int .i64 y1.2.1, .int .i64 0] rfl (ResAll.cons (ResAt.tmp (by kernel_rfl)) (ResAll.cons (ResAt.tmp (by kernel_rfl)) (ResAll.cons (ResAt.tmp (by kernel_rfl)) ResAll.nil))) ?_
      exact ⟨m1, rfl, hm, st⟩
    · intro hc
      rw [if_neg (not_true hc)] at hr
      refine W_skip ?_
      refine X_then ?_
      refine W_seq ?_
      refine W_region ?_
      refine WO_seg 9 [(4, .int .i64 (IntKind.wrap .i64 ((IntKind.wrap .i64 (0 - (IntKind.wrap .i64 (IntKind.wrap .u64 (Int.tdiv y1.1 2))))) - 1))), (5, .int .i64 y1.2.1), (6, .int .i64 0)] (by kernel_rfl) (by kernel_rfl) ?_
      refine WO_end rfl ?_
      refine X_then ?_
      refine W_ret ?_
      obtain rfl := Option.some.inj hr
      refine X_ret [.tmp 4, .tmp 5, .tmp 6] [.int .i64 (IntKind.wrap .i64 ((IntKind.wrap .i64 (0 - (IntKind.wrap .i64 (IntKind.wrap .u64 (Int.tdiv y1.1 2))))) - 1)), .int .i64 y1.2.1, .int .i64 0] rfl (ResAll.cons (ResAt.tmp (by kernel_rfl)) (ResAll.cons (ResAt.tmp (by kernel_rfl)) (ResAll.cons (ResAt.tmp (by kernel_rfl)) ResAll.nil))) ?_
      exact ⟨m1, rfl, hm, st⟩

def testgateref03_PutInt (N : Nat) (p0 : List UInt8) (p1 : Int) : Option (List UInt8) :=
  if (decide (p1 ≥ 0)) = true then ((testgateref03_PutUint N p0 (IntKind.wrap .u64 (2 * (IntKind.wrap .u64 p1)))).bind fun y1 => some y1) else ((testgateref03_PutUint N p0 (IntKind.wrap .u64 ((IntKind.wrap .u64 (2 * (IntKind.wrap .u64 (IntKind.wrap .i64 (0 - (IntKind.wrap .i64 (p1 + 1))))))) + 1))).bind fun y2 => some y2)

set_option maxHeartbeats 4000000 in
set_option maxRecDepth 100000 in
theorem testgateref03_PutInt_ok {N : Nat} {m : Mem} {own : List Piece} {w : World} {p0 : List UInt8} {p1 : Int} {a1 : Option Addr} {c1 : Nat} {r : List UInt8} (st : St m (own) w) (r1 : RepS cU8 m a1 c1 p0) (hr : testgateref03_PutInt N p0 p1 = some r) : Calls Go.Proofs.Try.prog 47 #[.slice a1 (List.length p0) c1, .int .i64 p1] w fun e w' => ∃ (ra1 : Option Addr) (rc1 : Nat) (m' : Mem), e = .returned (.slice ra1 (List.length r) rc1) ∧ m.le m' ∧ St m' (.room ra1 (List.length r) rc1 5 1 :: own) w' ∧ RepS cU8 m' ra1 rc1 r := by
  unfold testgateref03_PutInt at hr
  have hm := m.le_refl
  refine W_calls Go.Proofs.Try.func47 rfl Go.Proofs.Try.ntmps47 [(0, .slice a1 (List.length p0) c1), (1, .int .i64 p1)] (by kernel_rfl) rfl ?_
  refine W_seq ?_
  refine W_region ?_
  refine WO_seg 1 [] (by kernel_rfl) (by kernel_rfl) ?_
  refine WO_end rfl ?_
  refine X_then ?_
  refine W_seq ?_
  refine W_seq ?_
  refine W_region ?_
  refine WO_seg 2 [(6, .bool (decide (p1 ≥ 0)))] (by kernel_rfl) (by kernel_rfl) ?_
  refine WO_end rfl ?_
  refine X_then ?_
  refine W_cond (decide (p1 ≥ 0)) (by kernel_rfl) ?_ ?_
  · intro hc
    rw [if_pos hc] at hr
    refine W_seq ?_
    refine W_region ?_
    refine WO_seg 4 [(7, .slice a1 (List.length p0) c1), (10, .int .u64 (IntKind.wrap .u64 (2 * (IntKind.wrap .u64 p1))))] (by kernel_rfl) (by kernel_rfl) ?_
    replace hr := bindS hr
    obtain ⟨y1, hx1, hr⟩ := hr
    refine WO_one rfl (One_fn 11 48 #[.slice a1 (List.length p0) c1, .int .u64 (IntKind.wrap .u64 (2 * (IntKind.wrap .u64 p1)))] (by kernel_rfl) rfl ?_)
    refine (testgateref03_PutUint_ok st r1 hx1).mono ?_
    clear st
    rintro _ w1 ⟨a2, c2, m1, rfl, hle1, st, r2⟩
    refine ⟨_, rfl, ?_⟩
    have hm := Mem.le_trans hm hle1
    have r1 := r1.mono hle1
    refine WO_seg 1 [(4, .slice a2 (List.length y1) c2)] (by kernel_rfl) (by kernel_rfl) ?_
    refine WO_end rfl ?_
    refine X_then ?_
    refine W_ret ?_
    refine X_then_ret ?_
    obtain rfl := Option.some.inj hr
    refine X_ret [.tmp 4] [.slice a2 (List.length y1) c2] rfl (ResAll.cons (ResAt.tmp (by kernel_rfl)) ResAll.nil) ?_
    exact ⟨a2, c2, m1, rfl, hm, st, r2⟩
  · intro hc
    rw [if_neg (not_true hc)] at hr
    refine W_skip ?_
    refine X_then ?_
    refine W_seq ?_
    refine W_region ?_
    refine WO_seg 7 [(12, .slice a1 (List.length p0) c1), (18, .int .u64 (IntKind.wrap .u64 ((IntKind.wrap .u64 (2 * (IntKind.wrap .u64 (IntKind.wrap .i64 (0 - (IntKind.wrap .i64 (p1 + 1))))))) + 1)))] (by kernel_rfl) (by kernel_rfl) ?_
    replace hr := bindS hr
    obtain ⟨y2, hx2, hr⟩ := hr
    refine WO_one rfl (One_fn 19 48 #[.slice a1 (List.length p0) c1, .int .u64 (IntKind.wrap .u64 ((IntKind.wrap .u64 (2 * (IntKind.wrap .u64 (IntKind.wrap .i64 (0 - (IntKind.wrap .i64 (p1 + 1))))))) + 1))] (by kernel_rfl) rfl ?_)
    refine (testgateref03_PutUint_ok st r1 hx2).mono ?_
    clear st
    rintro _ w2 ⟨a3, c3, m2, rfl, hle2, st, r3⟩
    refine ⟨_, rfl, ?_⟩
    have hm := Mem.le_trans hm hle2
    have r1 := r1.mono hle2
    refine WO_seg 1 [(4, .slice a3 (List.length y2) c3)] (by kernel_rfl) (by kernel_rfl) ?_
    refine WO_end rfl ?_
    refine X_then ?_
    refine W_ret ?_
    obtain rfl := Option.some.inj hr
    refine X_ret [.tmp 4] [.slice a3 (List.length y2) c3] rfl (ResAll.cons (ResAt.tmp (by kernel_rfl)) ResAll.nil) ?_
    exact ⟨a3, c3, m2, rfl, hm, st, r3⟩

def testgateref03_PutText (N : Nat) (p0 : List UInt8) (p1 : ByteArray) : Option (List UInt8) :=
  (testgateref03_PutUint N p0 (IntKind.wrap .u64 (ByteArray.size p1 : Int))).bind fun y1 => (appendS 1 y1 p1.data.toList).bind fun l1 => some l1

set_option maxHeartbeats 4000000 in
set_option maxRecDepth 100000 in
theorem testgateref03_PutText_ok {N : Nat} {m : Mem} {own : List Piece} {w : World} {p0 : List UInt8} {p1 : ByteArray} {a1 : Option Addr} {c1 : Nat} {r : List UInt8} (st : St m (own) w) (r1 : RepS cU8 m a1 c1 p0) (hr : testgateref03_PutText N p0 p1 = some r) : Calls Go.Proofs.Try.prog 46 #[.slice a1 (List.length p0) c1, .string p1] w fun e w' => ∃ (ra1 : Option Addr) (rc1 : Nat) (m' : Mem), e = .returned (.slice ra1 (List.length r) rc1) ∧ m.le m' ∧ St m' (.room ra1 (List.length r) rc1 5 1 :: own) w' ∧ RepS cU8 m' ra1 rc1 r := by
  unfold testgateref03_PutText at hr
  have hm := m.le_refl
  refine W_calls Go.Proofs.Try.func46 rfl Go.Proofs.Try.ntmps46 [(0, .slice a1 (List.length p0) c1), (1, .string p1)] (by kernel_rfl) rfl ?_
  refine W_seq ?_
  refine W_region ?_
  refine WO_seg 1 [] (by kernel_rfl) (by kernel_rfl) ?_
  refine WO_end rfl ?_
  refine X_then ?_
  refine W_seq ?_
  refine W_region ?_
  refine WO_seg 4 [(5, .slice a1 (List.length p0) c1), (8, .int .u64 (IntKind.wrap .u64 (ByteArray.size p1 : Int)))] (by kernel_rfl) (by kernel_rfl) ?_
  replace hr := bindS hr
  obtain ⟨y1, hx1, hr⟩ := hr
  refine WO_one rfl (One_fn 9 48 #[.slice a1 (List.length p0) c1, .int .u64 (IntKind.wrap .u64 (ByteArray.size p1 : Int))] (by kernel_rfl) rfl ?_)
  refine (testgateref03_PutUint_ok st r1 hx1).mono ?_
  clear st
  rintro _ w1 ⟨a2, c2, m1, rfl, hle1, st, r2⟩
  refine ⟨_, rfl, ?_⟩
  have hm := Mem.le_trans hm hle1
  have r1 := r1.mono hle1
  refine WO_seg 1 [(10, .string p1)] (by kernel_rfl) (by kernel_rfl) ?_
  replace hr := bindS hr
  obtain ⟨l1, hx2, hr⟩ := hr
  refine WO_one rfl (One_append (d := 11) (t := 50) (u := 9) (e := 5) (by_ := 1) (x := (.tmp 9)) (y := (.tmp 10)) cU8 (by kernel_rfl) rfl (show evL _ _ = some (.slice a2 (List.length y1) c2) from (by kernel_rfl)) (show evL _ _ = some (.string p1) from (by kernel_rfl)) st (by kernel_rfl) (.inr (by kernel_rfl)) r2 (Gives.str _) hx2 ?_)
  clear st
  intro a3 c3 m2 w2 hle2 st r3
  have hm := Mem.le_trans hm hle2
  have r1 := r1.mono hle2
  have r2 := r2.mono hle2
  refine WO_seg 1 [(4, .slice a3 (List.length l1) c3)] (by kernel_rfl) (by kernel_rfl) ?_
  refine WO_end rfl ?_
  refine X_then ?_
  refine W_ret ?_
  obtain rfl := Option.some.inj hr
  refine X_ret [.tmp 4] [.slice a3 (List.length l1) c3] rfl (ResAll.cons (ResAt.tmp (by kernel_rfl)) ResAll.nil) ?_
  exact ⟨a3, c3, m2, rfl, hm, st, r3⟩

def testgateref03_Same (N : Nat) (p0 : List UInt8) (p1 : List UInt8) : Option (Bool) :=
  some ((strOf p0).toList == (strOf p1).toList)

set_option maxHeartbeats 4000000 in
set_option maxRecDepth 100000 in
theorem testgateref03_Same_ok {N : Nat} {m : Mem} {own : List Piece} {w : World} {p0 : List UInt8} {p1 : List UInt8} {a1 : Option Addr} {c1 : Nat} {a2 : Option Addr} {c2 : Nat} {r : Bool} (st : St m (own) w) (r1 : RepS cU8 m a1 c1 p0) (r2 : RepS cU8 m a2 c2 p1) (hr : testgateref03_Same N p0 p1 = some r) : Calls Go.Proofs.Try.prog 33 #[.slice a1 (List.length p0) c1, .slice a2 (List.length p1) c2] w fun e w' => ∃ (m' : Mem), e = .returned (.bool r) ∧ m.le m' ∧ St m' (own) w' := by
  unfold testgateref03_Same at hr
  have hm := m.le_refl
  refine W_calls Go.Proofs.Try.func33 rfl Go.Proofs.Try.ntmps33 [(0, .slice a1 (List.length p0) c1), (1, .slice a2 (List.length p1) c2)] (by kernel_rfl) rfl ?_
  refine W_seq ?_
  refine W_region ?_
  refine WO_seg 1 [] (by kernel_rfl) (by kernel_rfl) ?_
  refine WO_end rfl ?_
  refine X_then ?_
  refine W_seq ?_
  refine W_region ?_
  refine WO_seg 1 [(5, .slice a1 (List.length p0) c1)] (by kernel_rfl) (by kernel_rfl) ?_
  refine WO_one rfl (One_bytesStr (d := 6) (t1 := 50) (t2 := 9) (e := 5) (x := (.tmp 5)) (by kernel_rfl) rfl (show evL _ _ = some (.slice a1 (List.length p0) c1) from (by kernel_rfl)) (by kernel_rfl) (by kernel_rfl) st r1 ?_)
  refine WO_seg 1 [(7, .slice a2 (List.length p1) c2)] (by kernel_rfl) (by kernel_rfl) ?_
  refine WO_one rfl (One_bytesStr (d := 8) (t1 := 50) (t2 := 9) (e := 5) (x := (.tmp 7)) (by kernel_rfl) rfl (show evL _ _ = some (.slice a2 (List.length p1) c2) from (by kernel_rfl)) (by kernel_rfl) (by kernel_rfl) st r2 ?_)
  refine WO_seg 2 [(4, .bool ((strOf p0).toList == (strOf p1).toList))] (by kernel_rfl) (by kernel_rfl) ?_
  refine WO_end rfl ?_
  refine X_then ?_
  refine W_ret ?_
  obtain rfl := Option.some.inj hr
  refine X_ret [.tmp 4] [.bool ((strOf p0).toList == (strOf p1).toList)] rfl (ResAll.cons (ResAt.tmp (by kernel_rfl)) ResAll.nil) ?_
  exact ⟨m, rfl, hm, st⟩

def testgateref03_SameFrames_L1 (N : Nat) (p0 : List (Int × List UInt8)) (p1 : List (Int × List UInt8)) (s1 : Int) : Option ((Int) ⊕ ((Unit) ⊕ (Bool))) :=
  if (decide (s1 < (List.length p0 : Int))) = true then (((idx p0 s1).bind fun x1 => (idx p1 s1).bind fun x2 => if (x1.1 != x2.1) = true then (some true) else ((idx p0 s1).bind fun x3 => (idx p1 s1).bind fun x4 => (testgateref03_Same N x3.2 x4.2).bind fun y1 => some (!y1)) : Option (Bool)).bind fun o2 => if o2 = true then (some (.inr (.inr (false)))) else (some (.inl (IntKind.wrap .i64 (s1 + 1))))) else (some (.inr (.inl ())))

def testgateref03_SameFrames (N : Nat) (p0 : List (Int × List UInt8)) (p1 : List (Int × List UInt8)) : Option (Bool) :=
  if ((List.length p0 : Int) != (List.length p1 : Int)) = true then (some false) else ((loopM (testgateref03_SameFrames_L1 N p0 p1) N 0).bind fun out1 => (match out1 with | .inl o1 => some true | .inr (z) => some z))

set_option maxHeartbeats 4000000 in
set_option maxRecDepth 100000 in
theorem testgateref03_SameFrames_ok {N : Nat} {m : Mem} {own : List Piece} {w : World} {p0 : List (Int × List UInt8)} {p1 : List (Int × List UInt8)} {a1 : Option Addr} {c1 : Nat} {a2 : Option Addr} {c2 : Nat} {r : Bool} (st : St m (own) w) (r1 : RepS (cPair (cInt .i64) (cSl cU8)) m a1 c1 p0) (r2 : RepS (cPair (cInt .i64) (cSl cU8)) m a2 c2 p1) (hr : testgateref03_SameFrames N p0 p1 = some r) : Calls Go.Proofs.Try.prog 38 #[.slice a1 (List.length p0) c1, .slice a2 (List.length p1) c2] w fun e w' => ∃ (m' : Mem), e = .returned (.bool r) ∧ m.le m' ∧ St m' (own) w' := by
  unfold testgateref03_SameFrames at hr
  have hm := m.le_refl
  refine W_calls Go.Proofs.Try.func38 rfl Go.Proofs.Try.ntmps38 [(0, .slice a1 (List.length p0) c1), (1, .slice a2 (List.length p1) c2)] (by kernel_rfl) rfl ?_
  refine W_seq ?_
  refine W_region ?_
  refine WO_seg 1 [] (by kernel_rfl) (by kernel_rfl) ?_
  refine WO_end rfl ?_
  refine X_then ?_
  refine W_seq ?_
  refine W_seq ?_
  refine W_region ?_
  refine WO_seg 5 [(10, .bool ((List.length p0 : Int) != (List.length p1 : Int)))] (by kernel_rfl) (by kernel_rfl) ?_
  refine WO_end rfl ?_
  refine X_then ?_
  refine W_cond ((List.length p0 : Int) != (List.length p1 : Int)) (by kernel_rfl) ?_ ?_
  · intro hc
    rw [if_pos hc] at hr
    refine W_seq ?_
    refine W_region ?_
    refine WO_seg 1 [(4, .bool false)] (by kernel_rfl) (by kernel_rfl) ?_
    refine WO_end rfl ?_
    refine X_then ?_
    refine W_ret ?_
    refine X_then_ret ?_
    obtain rfl := Option.some.inj hr
    refine X_ret [.tmp 4] [.bool false] rfl (ResAll.cons (ResAt.tmp (by kernel_rfl)) ResAll.nil) ?_
    exact ⟨m, rfl, hm, st⟩
  · intro hc
    rw [if_neg (not_true hc)] at hr
    refine W_skip ?_
    refine X_then ?_
    refine W_seq ?_
    refine W_seq ?_
    refine W_region ?_
    refine WO_seg 1 [(5, .int .i64 0)] (by kernel_rfl) (by kernel_rfl) ?_
    refine WO_end rfl ?_
    refine X_then ?_
    refine W_block ?_
    replace hr := bindS hr
    obtain ⟨out1, hr, hrKu1⟩ := hr
    refine W_cut (.exit 0) (fun L' w' => ∃ (o1 : Unit) (m1 : Mem), (.inl o1) = out1 ∧ L' = [] ∧ m.le m1 ∧ St m1 (own) w') ?_ ?_
    · clear hr st
      rintro _ w1 ⟨o1, m1, rfl, rfl, hm, st⟩
      have hr := hrKu1
      clear hrKu1
      dsimp only at hr
      refine X_block_eq ?_
      refine X_then ?_
      refine W_seq ?_
      refine W_region ?_
      refine WO_seg 1 [(4, .bool true)] (by kernel_rfl) (by kernel_rfl) ?_
      refine WO_end rfl ?_
      refine X_then ?_
      refine W_ret ?_
      obtain rfl := Option.some.inj hr
      refine X_ret [.tmp 4] [.bool true] rfl (ResAll.cons (ResAt.tmp (by kernel_rfl)) ResAll.nil) ?_
      exact ⟨m1, rfl, hm, st⟩
    intro K0_u1
    refine W_env _ (by kernel_rfl) (W_loop (fun k1 L' w' => ∃ (s1 : Int) (m2 : Mem), loopM (testgateref03_SameFrames_L1 N p0 p1) k1 s1 = some out1 ∧ L' = [(0, .slice a1 (List.length p0) c1), (1, .slice a2 (List.length p1) c2), (5, .int .i64 s1)] ∧ m.le m2 ∧ St m2 (own) w' ∧ RepS (cPair (cInt .i64) (cSl cU8)) m2 a1 c1 p0 ∧ RepS (cPair (cInt .i64) (cSl cU8)) m2 a2 c2 p1) N ⟨0, m, hr, rfl, hm, st, r1, r2⟩ ?_)
    clear st hr
    rintro k1 _ w2 ⟨s1, m2, hL, rfl, hm, st, r1, r2⟩
    rcases k1 with _ | k1
    · exact loopM_zero hL
    · obtain ⟨qu1, hr, hSu1, hBu1⟩ := loopM_succ hL
      clear hL
      unfold testgateref03_SameFrames_L1 at hr
      refine W_seq ?_
      refine W_seq ?_
      refine W_region ?_
      refine WO_seg 4 [(14, .bool (decide (s1 < (List.length p0 : Int))))] (by kernel_rfl) (by kernel_rfl) ?_
      refine WO_end rfl ?_
      refine X_then ?_
      refine W_cond (decide (s1 < (List.length p0 : Int))) (by kernel_rfl) ?_ ?_
      · intro hc
        rw [if_pos hc] at hr
        refine W_skip ?_
        refine X_then ?_
        refine W_seq ?_
        refine W_block ?_
        refine W_seq ?_
        replace hr := bindS hr
        obtain ⟨o2, hr, hrK⟩ := hr
        refine W_cut .normal (fun L' w' => ∃ (m3 : Mem), L' = [(0, .slice a1 (List.length p0) c1), (1, .slice a2 (List.length p1) c2), (5, .int .i64 s1), (41, .bool o2)] ∧ m.le m3 ∧ St m3 (own) w' ∧ RepS (cPair (cInt .i64) (cSl cU8)) m3 a1 c1 p0 ∧ RepS (cPair (cInt .i64) (cSl cU8)) m3 a2 c2 p1) ?_ ?_
        · clear hr st
          have hr := hrK
          clear hrK
          rintro _ w3 ⟨m3, rfl, hm, st, r1, r2⟩
          refine X_then ?_
          refine W_cond o2 (by kernel_rfl) ?_ ?_
          · intro hc
            rw [if_pos hc] at hr
            refine W_seq ?_
            refine W_region ?_
            refine WO_seg 1 [(4, .bool false)] (by kernel_rfl) (by kernel_rfl) ?_
            refine WO_end rfl ?_
            refine X_then ?_
            refine W_ret ?_
            refine X_block_ret ?_
            refine X_then_ret ?_
            obtain rfl := Option.some.inj hr
            have ho := hBu1 _ rfl
            subst ho
            have hr := hrKu1
            dsimp only at hr
            refine X_then_ret ?_
            refine X_block_ret ?_
            refine X_then_ret ?_
            obtain rfl := Option.some.inj hr
            refine X_ret [.tmp 4] [.bool false] rfl (ResAll.cons (ResAt.tmp (by kernel_rfl)) ResAll.nil) ?_
            exact ⟨m3, rfl, hm, st⟩
          · intro hc
            rw [if_neg (not_true hc)] at hr
            refine W_skip ?_
            refine X_block ?_
            refine X_then ?_
            refine W_region ?_
            refine WO_seg 3 [(5, .int .i64 (IntKind.wrap .i64 (s1 + 1)))] (by kernel_rfl) (by kernel_rfl) ?_
            refine WO_end rfl ?_
            obtain rfl := Option.some.inj hr
            have hL := hSu1 _ rfl
            exact X_env _ (by kernel_rfl) (X_round k1 (Nat.lt_succ_self _) ⟨IntKind.wrap .i64 (s1 + 1), m3, hL, rfl, hm, st, r1, r2⟩)
        · intro K
          clear hrK
          refine W_draw [(25, fun w' => Inv m2 w' ∧ True)] (by kernel_rfl) st ?_
          clear st
          intro w4 _ st
          have hmS := m2.le_refl
          refine ⟨⟨.inr ⟨Inv.anti st.inv hmS, trivial⟩, trivial⟩, ?_⟩
          refine WA_pure 0 17 (.slice a1 (List.length p0) c1) (by kernel_rfl) rfl (by kernel_rfl) (.head _) (QP_then (QP_block (QP_then (QP_then (QP_block (QP_then QP_body)))))) ?_
          refine WA_pure 1 18 (.int .i64 s1) (by kernel_rfl) rfl (by kernel_rfl) (.head _) (QP_then (QP_block (QP_then (QP_then (QP_block (QP_then QP_body)))))) ?_
          replace hr := bindS hr
          obtain ⟨x1, hx1, hr⟩ := hr
          refine WA_index (t := 62) (e := 54) (x := (.tmp 17)) (y := (.tmp 18)) 2 19 (cPair (cInt .i64) (cSl cU8)) (by kernel_rfl) rfl (by kernel_rfl) (.head _) (QP_then (QP_block (QP_then (QP_then (QP_block (QP_then QP_body)))))) (show evL _ _ = some (.slice a1 (List.length p0) c1) from (by kernel_rfl)) (show evL _ _ = some (.int .i64 s1) from (by kernel_rfl)) (by kernel_rfl) r1 hx1 ?_
          rintro b1 f1 cs1 ⟨_, _, rfl, rfl, ⟨a3, c3, rfl, r3⟩⟩ hq1
          refine WA_pure 3 20 (.pointer (some ⟨b1, f1, none⟩)) (by kernel_rfl) rfl (by kernel_rfl) (.head _) (QP_then (QP_block (QP_then (QP_then (QP_block (QP_then QP_body)))))) ?_
          refine WA_load_row (t := 3) (x := (.tmp 20)) 4 21 (.int .i64 x1.1) (by kernel_rfl) rfl (by kernel_rfl) (.head _) (QP_then (QP_block (QP_then (QP_then (QP_block (QP_then QP_body)))))) (fun _ h => h.1) (show evL _ _ = some (.pointer (some ⟨b1, f1, none⟩)) from (by kernel_rfl)) hq1 (by kernel_rfl) ?_
          refine WA_pure 5 22 (.slice a2 (List.length p1) c2) (by kernel_rfl) rfl (by kernel_rfl) (.head _) (QP_then (QP_block (QP_then (QP_then (QP_block (QP_then QP_body)))))) ?_
          refine WA_pure 6 23 (.int .i64 s1) (by kernel_rfl) rfl (by kernel_rfl) (.head _) (QP_then (QP_block (QP_then (QP_then (QP_block (QP_then QP_body)))))) ?_
          replace hr := bindS hr
          obtain ⟨x2, hx2, hr⟩ := hr
          refine WA_index (t := 62) (e := 54) (x := (.tmp 22)) (y := (.tmp 23)) 7 24 (cPair (cInt .i64) (cSl cU8)) (by kernel_rfl) rfl (by kernel_rfl) (.head _) (QP_then (QP_block (QP_then (QP_then (QP_block (QP_then QP_body)))))) (show evL _ _ = some (.slice a2 (List.length p1) c2) from (by kernel_rfl)) (show evL _ _ = some (.int .i64 s1) from (by kernel_rfl)) (by kernel_rfl) r2 hx2 ?_
          rintro b2 f2 cs2 ⟨_, _, rfl, rfl, ⟨a4, c4, rfl, r4⟩⟩ hq2
          refine WA_pure 8 25 (.pointer (some ⟨b2, f2, none⟩)) (by kernel_rfl) rfl (by kernel_rfl) (.head _) (QP_then (QP_block (QP_then (QP_then (QP_block (QP_then QP_body)))))) ?_
          refine WA_load_row (t := 3) (x := (.tmp 25)) 9 26 (.int .i64 x2.1) (by kernel_rfl) rfl (by kernel_rfl) (.head _) (QP_then (QP_block (QP_then (QP_then (QP_block (QP_then QP_body)))))) (fun _ h => h.1) (show evL _ _ = some (.pointer (some ⟨b2, f2, none⟩)) from (by kernel_rfl)) hq2 (by kernel_rfl) ?_
          refine WA_pure 10 27 (.bool (x1.1 != x2.1)) (by kernel_rfl) rfl (by kernel_rfl) (.head _) (QP_then (QP_block (QP_then (QP_then (QP_block (QP_then QP_body)))))) ?_
          refine WA_pure 11 28 (.bool (x1.1 != x2.1)) (by kernel_rfl) rfl (by kernel_rfl) (.head _) (QP_then (QP_block (QP_then (QP_then (QP_block (QP_then QP_body)))))) ?_
          rcases bcases (x1.1 != x2.1) with hc | hc
          · rw [if_pos hc] at hr
            refine WA_fact (t := 28) (b := true) (x1.1 != x2.1) (by kernel_rfl) hc ?_
            refine WA_not 12 29 (by kernel_rfl) rfl (by kernel_rfl) (.head _) (QP_then (QP_block (QP_then (QP_then (QP_block (QP_then QP_body)))))) ?_
            refine WA_not 13 30 (by kernel_rfl) rfl (by kernel_rfl) (.head _) (QP_then (QP_block (QP_then (QP_then (QP_block (QP_then QP_body)))))) ?_
            refine WA_not 14 31 (by kernel_rfl) rfl (by kernel_rfl) (.head _) (QP_then (QP_block (QP_then (QP_then (QP_block (QP_then QP_body)))))) ?_
            refine WA_not 15 32 (by kernel_rfl) rfl (by kernel_rfl) (.head _) (QP_then (QP_block (QP_then (QP_then (QP_block (QP_then QP_body)))))) ?_
            refine WA_not 16 33 (by kernel_rfl) rfl (by kernel_rfl) (.head _) (QP_then (QP_block (QP_then (QP_then (QP_block (QP_then QP_body)))))) ?_
            refine WA_not 17 34 (by kernel_rfl) rfl (by kernel_rfl) (.head _) (QP_then (QP_block (QP_then (QP_then (QP_block (QP_then QP_body)))))) ?_
            refine WA_not 18 35 (by kernel_rfl) rfl (by kernel_rfl) (.head _) (QP_then (QP_block (QP_then (QP_then (QP_block (QP_then QP_body)))))) ?_
            refine WA_not 19 36 (by kernel_rfl) rfl (by kernel_rfl) (.head _) (QP_then (QP_block (QP_then (QP_then (QP_block (QP_then QP_body)))))) ?_
            refine WA_not 20 37 (by kernel_rfl) rfl (by kernel_rfl) (.head _) (QP_then (QP_block (QP_then (QP_then (QP_block (QP_then QP_body)))))) ?_
            refine WA_not 21 38 (by kernel_rfl) rfl (by kernel_rfl) (.head _) (QP_then (QP_block (QP_then (QP_then (QP_block (QP_then QP_body)))))) ?_
            refine WA_not 22 39 (by kernel_rfl) rfl (by kernel_rfl) (.head _) (QP_then (QP_block (QP_then (QP_then (QP_block (QP_then QP_body)))))) ?_
            refine WA_not 23 40 (by kernel_rfl) rfl (by kernel_rfl) (.head _) (QP_then (QP_block (QP_then (QP_then (QP_block (QP_then QP_body)))))) ?_
            refine WA_pure 24 41 (.bool true) (by kernel_rfl) rfl (by kernel_rfl) (.head _) (QP_then (QP_block (QP_then (QP_then (QP_block (QP_then QP_body)))))) ?_
            obtain rfl := Option.some.inj hr
            exact WA_done (by kernel_rfl) (X_env _ (by kernel_rfl) (K _ _ ⟨m2, rfl, hm, st, r1, r2⟩))
          · rw [if_neg (not_true hc)] at hr
            refine WA_fact (t := 28) (b := false) (x1.1 != x2.1) (by kernel_rfl) hc ?_
            refine WA_pure 12 29 (.slice a1 (List.length p0) c1) (by kernel_rfl) rfl (by kernel_rfl) (.head _) (QP_then (QP_block (QP_then (QP_then (QP_block (QP_then QP_body)))))) ?_
            refine WA_pure 13 30 (.int .i64 s1) (by kernel_rfl) rfl (by kernel_rfl) (.head _) (QP_then (QP_block (QP_then (QP_then (QP_block (QP_then QP_body)))))) ?_
            replace hr := bindS hr
            obtain ⟨x3, hx3, hr⟩ := hr
            refine WA_index (t := 62) (e := 54) (x := (.tmp 29)) (y := (.tmp 30)) 14 31 (cPair (cInt .i64) (cSl cU8)) (by kernel_rfl) rfl (by kernel_rfl) (.head _) (QP_then (QP_block (QP_then (QP_then (QP_block (QP_then QP_body)))))) (show evL _ _ = some (.slice a1 (List.length p0) c1) from (by kernel_rfl)) (show evL _ _ = some (.int .i64 s1) from (by kernel_rfl)) (by kernel_rfl) r1 hx3 ?_
            rintro b3 f3 cs3 ⟨_, _, rfl, rfl, ⟨a5, c5, rfl, r5⟩⟩ hq3
            refine WA_pure 15 32 (.pointer (some ⟨b3, f3 + 1, none⟩)) (by kernel_rfl) rfl (by kernel_rfl) (.head _) (QP_then (QP_block (QP_then (QP_then (QP_block (QP_then QP_body)))))) ?_
            refine WA_load_row (t := 50) (x := (.tmp 32)) 16 33 (.slice a5 (List.length x3.2) c5) (by kernel_rfl) rfl (by kernel_rfl) (.head _) (QP_then (QP_block (QP_then (QP_then (QP_block (QP_then QP_body)))))) (fun _ h => h.1) (show evL _ _ = some (.pointer (some ⟨b3, f3 + 1, none⟩)) from (by kernel_rfl)) (hq3.drop 1) (by kernel_rfl) ?_
            refine WA_pure 17 34 (.slice a2 (List.length p1) c2) (by kernel_rfl) rfl (by kernel_rfl) (.head _) (QP_then (QP_block (QP_then (QP_then (QP_block (QP_then QP_body)))))) ?_
            refine WA_pure 18 35 (.int .i64 s1) (by kernel_rfl) rfl (by kernel_rfl) (.head _) (QP_then (QP_block (QP_then (QP_then (QP_block (QP_then QP_body)))))) ?_
            replace hr := bindS hr
            obtain ⟨x4, hx4, hr⟩ := hr
            refine WA_index (t := 62) (e := 54) (x := (.tmp 34)) (y := (.tmp 35)) 19 36 (cPair (cInt .i64) (cSl cU8)) (by kernel_rfl) rfl (by kernel_rfl) (.head _) (QP_then (QP_block (QP_then (QP_then (QP_block (QP_then QP_body)))))) (show evL _ _ = some (.slice a2 (List.length p1) c2) from (by kernel_rfl)) (show evL _ _ = some (.int .i64 s1) from (by kernel_rfl)) (by kernel_rfl) r2 hx4 ?_
            rintro b4 f4 cs4 ⟨_, _, rfl, rfl, ⟨a6, c6, rfl, r6⟩⟩ hq4
            refine WA_pure 20 37 (.pointer (some ⟨b4, f4 + 1, none⟩)) (by kernel_rfl) rfl (by kernel_rfl) (.head _) (QP_then (QP_block (QP_then (QP_then (QP_block (QP_then QP_body)))))) ?_
            refine WA_load_row (t := 50) (x := (.tmp 37)) 21 38 (.slice a6 (List.length x4.2) c6) (by kernel_rfl) rfl (by kernel_rfl) (.head _) (QP_then (QP_block (QP_then (QP_then (QP_block (QP_then QP_body)))))) (fun _ h => h.1) (show evL _ _ = some (.pointer (some ⟨b4, f4 + 1, none⟩)) from (by kernel_rfl)) (hq4.drop 1) (by kernel_rfl) ?_
            replace hr := bindS hr
            obtain ⟨y1, hx5, hr⟩ := hr
            refine WA_one 22 (by kernel_rfl) (One_fn 39 33 #[.slice a5 (List.length x3.2) c5, .slice a6 (List.length x4.2) c6] (by kernel_rfl) rfl ?_)
            refine (testgateref03_Same_ok st r5 r6 hx5).mono ?_
            clear st
            rintro _ w5 ⟨m4, rfl, hle1, st⟩
            refine ⟨_, rfl, ?_⟩
            have hm := Mem.le_trans hm hle1
            have r1 := r1.mono hle1
            have r2 := r2.mono hle1
            have hq1 := hq1.mono hle1
            have r3 := r3.mono hle1
            have hq2 := hq2.mono hle1
            have r4 := r4.mono hle1
            have hq3 := hq3.mono hle1
            have r5 := r5.mono hle1
            have hq4 := hq4.mono hle1
            have r6 := r6.mono hle1
            have hmS := Mem.le_trans hmS hle1
            refine ⟨⟨.inr ⟨Inv.anti st.inv hmS, trivial⟩, trivial⟩, ?_⟩
            refine WA_pure 23 40 (.bool (!y1)) (by kernel_rfl) rfl (by kernel_rfl) (.head _) (QP_then (QP_block (QP_then (QP_then (QP_block (QP_then QP_body)))))) ?_
            refine WA_pure 24 41 (.bool (!y1)) (by kernel_rfl) rfl (by kernel_rfl) (.head _) (QP_then (QP_block (QP_then (QP_then (QP_block (QP_then QP_body)))))) ?_
            obtain rfl := Option.some.inj hr
            exact WA_done (by kernel_rfl) (X_env _ (by kernel_rfl) (K _ _ ⟨m4, rfl, hm, st, r1, r2⟩))
      · intro hc
        rw [if_neg (not_true hc)] at hr
        refine W_exit ?_
        refine X_then_exit ?_
        obtain rfl := Option.some.inj hr
        have ho := hBu1 _ rfl
        refine X_then_exit ?_
        exact X_env _ (by kernel_rfl) (K0_u1 _ _ ⟨(), m2, ho, rfl, hm, st⟩)

def testgateref03_Text (N : Nat) (p0 : List UInt8) (p1 : Int) (p2 : Int) : Option (ByteArray × Int × Int) :=
  (testgateref03_Uint N p0 p1).bind fun y1 => if (y1.2.2 != 0) = true then (some ((⟨#[]⟩ : ByteArray), 0, y1.2.2)) else ((if (decide (p2 < 0)) = true then (some true) else (some (decide (y1.1 > (IntKind.wrap .u64 p2)))) : Option (Bool)).bind fun o1 => if o1 = true then (some ((⟨#[]⟩ : ByteArray), 0, 2)) else (if (decide (y1.1 > (IntKind.wrap .u64 (IntKind.wrap .i64 ((List.length p0 : Int) - y1.2.1))))) = true then (some ((⟨#[]⟩ : ByteArray), 0, 7)) else ((subS p0 y1.2.1 (IntKind.wrap .i64 (y1.2.1 + (IntKind.wrap .i64 y1.1)))).bind fun l1 => some (strOf l1, IntKind.wrap .i64 (y1.2.1 + (IntKind.wrap .i64 y1.1)), 0))))

set_option maxHeartbeats 4000000 in
set_option maxRecDepth 100000 in
theorem testgateref03_Text_ok {N : Nat} {m : Mem} {own : List Piece} {w : World} {p0 : List UInt8} {p1 : Int} {p2 : Int} {a1 : Option Addr} {c1 : Nat} {r : ByteArray × Int × Int} (st : St m (own) w) (r1 : RepS cU8 m a1 c1 p0) (hr : testgateref03_Text N p0 p1 p2 = some r) : Calls Go.Proofs.Try.prog 54 #[.slice a1 (List.length p0) c1, .int .i64 p1, .int .i64 p2] w fun e w' => ∃ (m' : Mem), e = .returned (.tuple #[.string r.1, .int .i64 r.2.1, .int .i64 r.2.2]) ∧ m.le m' ∧ St m' (own) w' := by
  unfold testgateref03_Text at hr
  have hm := m.le_refl
  refine W_calls Go.Proofs.Try.func54 rfl Go.Proofs.Try.ntmps54 [(0, .slice a1 (List.length p0) c1), (1, .int .i64 p1), (2, .int .i64 p2)] (by kernel_rfl) rfl ?_
  refine W_seq ?_
  refine W_region ?_
  refine WO_seg 3 [] (by kernel_rfl) (by kernel_rfl) ?_
  refine WO_end rfl ?_
  refine X_then ?_
  refine W_seq ?_
  refine W_region ?_
  refine WO_seg 2 [(11, .slice a1 (List.length p0) c1), (12, .int .i64 p1)] (by kernel_rfl) (by kernel_rfl) ?_
  replace hr := bindS hr
  obtain ⟨y1, hx1, hr⟩ := hr
  refine WO_one rfl (One_fn 13 50 #[.slice a1 (List.length p0) c1, .int .i64 p1] (by kernel_rfl) rfl ?_)
  refine (testgateref03_Uint_ok st r1 hx1).mono ?_
  clear st
  rintro _ w1 ⟨m1, rfl, hle1, st⟩
  refine ⟨_, rfl, ?_⟩
  have hm := Mem.le_trans hm hle1
  have r1 := r1.mono hle1
  refine WO_seg 7 [(9, .int .u64 y1.1), (7, .int .i64 y1.2.1), (8, .int .i64 y1.2.2)] (by kernel_rfl) (by kernel_rfl) ?_
  refine WO_end rfl ?_
  refine X_then ?_
  refine W_seq ?_
  refine W_seq ?_
  refine W_region ?_
  refine WO_seg 2 [(18, .bool (y1.2.2 != 0))] (by kernel_rfl) (by kernel_rfl) ?_
  refine WO_end rfl ?_
  refine X_then ?_
  refine W_cond (y1.2.2 != 0) (by kernel_rfl) ?_ ?_
  · intro hc
    rw [if_pos hc] at hr
    refine W_seq ?_
    refine W_region ?_
    refine WO_seg 4 [(6, .string (⟨#[]⟩ : ByteArray)), (7, .int .i64 0), (8, .int .i64 y1.2.2)] (by kernel_rfl) (by kernel_rfl) ?_
    refine WO_end rfl ?_
    refine X_then ?_
    refine W_ret ?_
    refine X_then_ret ?_
    obtain rfl := Option.some.inj hr
    refine X_ret [.tmp 6, .tmp 7, .tmp 8] [.string (⟨#[]⟩ : ByteArray), .int .i64 0, .int .i64 y1.2.2] rfl (ResAll.cons (ResAt.tmp (by kernel_rfl)) (ResAll.cons (ResAt.tmp (by kernel_rfl)) (ResAll.cons (ResAt.tmp (by kernel_rfl)) ResAll.nil))) ?_
    exact ⟨m1, rfl, hm, st⟩
  · intro hc
    rw [if_neg (not_true hc)] at hr
    refine W_skip ?_
    refine X_then ?_
    refine W_seq ?_
    refine W_seq ?_
    refine W_region ?_
    replace hr := bindS hr
    obtain ⟨o1, hr, hrK⟩ := hr
    refine WO_cut (j := 8) (fun L' w' => ∃ (m2 : Mem), L' = [(0, .slice a1 (List.length p0) c1), (7, .int .i64 y1.2.1), (9, .int .u64 y1.1), (27, .bool o1)] ∧ m.le m2 ∧ St m2 (own) w' ∧ RepS cU8 m2 a1 c1 p0) ?_ ?_
    · clear hr st
      have hr := hrK
      clear hrK
      rintro _ w2 ⟨m2, rfl, hm, st, r1⟩
      refine WO_end rfl ?_
      refine X_then ?_
      refine W_cond o1 (by kernel_rfl) ?_ ?_
      · intro hc
        rw [if_pos hc] at hr
        refine W_seq ?_
        refine W_region ?_
        refine WO_seg 3 [(6, .string (⟨#[]⟩ : ByteArray)), (7, .int .i64 0), (8, .int .i64 2)] (by kernel_rfl) (by kernel_rfl) ?_
        refine WO_end rfl ?_
        refine X_then ?_
        refine W_ret ?_
        refine X_then_ret ?_
        obtain rfl := Option.some.inj hr
        refine X_ret [.tmp 6, .tmp 7, .tmp 8] [.string (⟨#[]⟩ : ByteArray), .int .i64 0, .int .i64 2] rfl (ResAll.cons (ResAt.tmp (by kernel_rfl)) (ResAll.cons (ResAt.tmp (by kernel_rfl)) (ResAll.cons (ResAt.tmp (by kernel_rfl)) ResAll.nil))) ?_
        exact ⟨m2, rfl, hm, st⟩
      · intro hc
        rw [if_neg (not_true hc)] at hr
        refine W_skip ?_
        refine X_then ?_
        refine W_seq ?_
        refine W_seq ?_
        refine W_region ?_
        refine WO_seg 7 [(34, .bool (decide (y1.1 > (IntKind.wrap .u64 (IntKind.wrap .i64 ((List.length p0 : Int) - y1.2.1))))))] (by kernel_rfl) (by kernel_rfl) ?_
        refine WO_end rfl ?_
        refine X_then ?_
        refine W_cond (decide (y1.1 > (IntKind.wrap .u64 (IntKind.wrap .i64 ((List.length p0 : Int) - y1.2.1))))) (by kernel_rfl) ?_ ?_
        · intro hc
          rw [if_pos hc] at hr
          refine W_seq ?_
          refine W_region ?_
          refine WO_seg 3 [(6, .string (⟨#[]⟩ : ByteArray)), (7, .int .i64 0), (8, .int .i64 7)] (by kernel_rfl) (by kernel_rfl) ?_
          refine WO_end rfl ?_
          refine X_then ?_
          refine W_ret ?_
          refine X_then_ret ?_
          obtain rfl := Option.some.inj hr
          refine X_ret [.tmp 6, .tmp 7, .tmp 8] [.string (⟨#[]⟩ : ByteArray), .int .i64 0, .int .i64 7] rfl (ResAll.cons (ResAt.tmp (by kernel_rfl)) (ResAll.cons (ResAt.tmp (by kernel_rfl)) (ResAll.cons (ResAt.tmp (by kernel_rfl)) ResAll.nil))) ?_
          exact ⟨m2, rfl, hm, st⟩
        · intro hc
          rw [if_neg (not_true hc)] at hr
          refine W_skip ?_
          refine X_then ?_
          refine W_seq ?_
          refine W_region ?_
          refine WO_seg 6 [(35, .slice a1 (List.length p0) c1), (36, .int .i64 y1.2.1), (40, .int .i64 (IntKind.wrap .i64 (y1.2.1 + (IntKind.wrap .i64 y1.1))))] (by kernel_rfl) (by kernel_rfl) ?_
          replace hr := bindS hr
          obtain ⟨l1, hx2, hr⟩ := hr
          refine WO_one rfl (One_slice (d := 41) (t := 50) (e := 5) (x := (.tmp 35)) (lo := (some (.tmp 36))) (hi := (some (.tmp 40))) cU8 (by kernel_rfl) rfl (show evL _ _ = some (.slice a1 (List.length p0) c1) from (by kernel_rfl)) (by kernel_rfl) r1 (.inr ⟨_, _, rfl, (show evL _ _ = some (.int .i64 y1.2.1) from (by kernel_rfl))⟩) (.inr ⟨_, _, rfl, (show evL _ _ = some (.int .i64 (IntKind.wrap .i64 (y1.2.1 + (IntKind.wrap .i64 y1.1)))) from (by kernel_rfl))⟩) hx2 ?_)
          intro a2 c2 r2
          refine WO_one rfl (One_bytesStr (d := 42) (t1 := 50) (t2 := 9) (e := 5) (x := (.tmp 41)) (by kernel_rfl) rfl (show evL _ _ = some (.slice a2 (List.length l1) c2) from (by kernel_rfl)) (by kernel_rfl) (by kernel_rfl) st r2 ?_)
          refine WO_seg 7 [(6, .string (strOf l1)), (7, .int .i64 (IntKind.wrap .i64 (y1.2.1 + (IntKind.wrap .i64 y1.1)))), (8, .int .i64 0)] (by kernel_rfl) (by kernel_rfl) ?_
          refine WO_end rfl ?_
          refine X_then ?_
          refine W_ret ?_
          obtain rfl := Option.some.inj hr
          refine X_ret [.tmp 6, .tmp 7, .tmp 8] [.string (strOf l1), .int .i64 (IntKind.wrap .i64 (y1.2.1 + (IntKind.wrap .i64 y1.1))), .int .i64 0] rfl (ResAll.cons (ResAt.tmp (by kernel_rfl)) (ResAll.cons (ResAt.tmp (by kernel_rfl)) (ResAll.cons (ResAt.tmp (by kernel_rfl)) ResAll.nil))) ?_
          exact ⟨m2, rfl, hm, st⟩
    · intro K
      clear hrK
      refine WO_seg 3 [(22, .bool (decide (p2 < 0)))] (by kernel_rfl) (by kernel_rfl) ?_
      rcases bcases (decide (p2 < 0)) with hc | hc
      · rw [if_pos hc] at hr
        refine WO_fact (t := 22) (b := true) (decide (p2 < 0)) (by kernel_rfl) hc ?_
        refine WO_seg 5 [(27, .bool true)] (by kernel_rfl) (by kernel_rfl) ?_
        obtain rfl := Option.some.inj hr
        exact WO_env _ (by kernel_rfl) (K _ _ ⟨m1, rfl, hm, st, r1⟩)
      · rw [if_neg (not_true hc)] at hr
        refine WO_fact (t := 22) (b := false) (decide (p2 < 0)) (by kernel_rfl) hc ?_
        refine WO_seg 5 [(27, .bool (decide (y1.1 > (IntKind.wrap .u64 p2))))] (by kernel_rfl) (by kernel_rfl) ?_
        obtain rfl := Option.some.inj hr
        exact WO_env _ (by kernel_rfl) (K _ _ ⟨m1, rfl, hm, st, r1⟩)

def wire_Int (N : Nat) (p0 : List UInt8) (p1 : Int) : Option (Int × Int × Int) :=
  (wire_Uint N p0 p1).bind fun y1 => if (y1.2.2 != 0) = true then (some (0, 0, y1.2.2)) else (some (iXor .i64 (IntKind.wrap .i64 (Int.fdiv y1.1 (2 ^ 1))) (IntKind.wrap .i64 (0 - (IntKind.wrap .i64 (iAnd .u64 y1.1 1)))), y1.2.1, 0))

set_option maxHeartbeats 4000000 in
set_option maxRecDepth 100000 in
theorem wire_Int_ok {N : Nat} {m : Mem} {own : List Piece} {w : World} {p0 : List UInt8} {p1 : Int} {a1 : Option Addr} {c1 : Nat} {r : Int × Int × Int} (st : St m (own) w) (r1 : RepS cU8 m a1 c1 p0) (hr : wire_Int N p0 p1 = some r) : Calls Go.Proofs.Try.prog 51 #[.slice a1 (List.length p0) c1, .int .i64 p1] w fun e w' => ∃ (m' : Mem), e = .returned (.tuple #[.int .i64 r.1, .int .i64 r.2.1, .int .i64 r.2.2]) ∧ m.le m' ∧ St m' (own) w' := by
  unfold wire_Int at hr
  have hm := m.le_refl
  refine W_calls Go.Proofs.Try.func51 rfl Go.Proofs.Try.ntmps51 [(0, .slice a1 (List.length p0) c1), (1, .int .i64 p1)] (by kernel_rfl) rfl ?_
  refine W_seq ?_
  refine W_region ?_
  refine WO_seg 3 [] (by kernel_rfl) (by kernel_rfl) ?_
  refine WO_end rfl ?_
  refine X_then ?_
  refine W_seq ?_
  refine W_region ?_
  refine WO_seg 2 [(9, .slice a1 (List.length p0) c1), (10, .int .i64 p1)] (by kernel_rfl) (by kernel_rfl) ?_
  replace hr := bindS hr
  obtain ⟨y1, hx1, hr⟩ := hr
  refine WO_one rfl (One_fn 11 49 #[.slice a1 (List.length p0) c1, .int .i64 p1] (by kernel_rfl) rfl ?_)
  refine (wire_Uint_ok st r1 hx1).mono ?_
  clear st
  rintro _ w1 ⟨m1, rfl, hle1, st⟩
  refine ⟨_, rfl, ?_⟩
  have hm := Mem.le_trans hm hle1
  have r1 := r1.mono hle1
  refine WO_seg 7 [(7, .int .u64 y1.1), (5, .int .i64 y1.2.1), (6, .int .i64 y1.2.2)] (by kernel_rfl) (by kernel_rfl) ?_
  refine WO_end rfl ?_
  refine X_then ?_
  refine W_seq ?_
  refine W_seq ?_
  refine W_region ?_
  refine WO_seg 2 [(16, .bool (y1.2.2 != 0))] (by kernel_rfl) (by kernel_rfl) ?_
  refine WO_end rfl ?_
  refine X_then ?_
  refine W_cond (y1.2.2 != 0) (by kernel_rfl) ?_ ?_
  · intro hc
    rw [if_pos hc] at hr
    refine W_seq ?_
    refine W_region ?_
    refine WO_seg 4 [(4, .int .i64 0), (5, .int .i64 0), (6, .int .i64 y1.2.2)] (by kernel_rfl) (by kernel_rfl) ?_
    refine WO_end rfl ?_
    refine X_then ?_
    refine W_ret ?_
    refine X_then_ret ?_
    obtain rfl := Option.some.inj hr
    refine X_ret [.tmp 4, .tmp 5, .tmp 6] [.int .i64 0, .int .i64 0, .int .i64 y1.2.2] rfl (ResAll.cons (ResAt.tmp (by kernel_rfl)) (ResAll.cons (ResAt.tmp (by kernel_rfl)) (ResAll.cons (ResAt.tmp (by kernel_rfl)) ResAll.nil))) ?_
    exact ⟨m1, rfl, hm, st⟩
  · intro hc
    rw [if_neg (not_true hc)] at hr
    refine W_skip ?_
    refine X_then ?_
    refine W_seq ?_
    refine W_region ?_
    refine WO_seg 12 [(4, .int .i64 (iXor .i64 (IntKind.wrap .i64 (Int.fdiv y1.1 (2 ^ 1))) (IntKind.wrap .i64 (0 - (IntKind.wrap .i64 (iAnd .u64 y1.1 1)))))), (5, .int .i64 y1.2.1), (6, .int .i64 0)] (by kernel_rfl) (by kernel_rfl) ?_
    refine WO_end rfl ?_
    refine X_then ?_
    refine W_ret ?_
    obtain rfl := Option.some.inj hr
    refine X_ret [.tmp 4, .tmp 5, .tmp 6] [.int .i64 (iXor .i64 (IntKind.wrap .i64 (Int.fdiv y1.1 (2 ^ 1))) (IntKind.wrap .i64 (0 - (IntKind.wrap .i64 (iAnd .u64 y1.1 1))))), .int .i64 y1.2.1, .int .i64 0] rfl (ResAll.cons (ResAt.tmp (by kernel_rfl)) (ResAll.cons (ResAt.tmp (by kernel_rfl)) (ResAll.cons (ResAt.tmp (by kernel_rfl)) ResAll.nil))) ?_
    exact ⟨m1, rfl, hm, st⟩

def wire_PutInt (N : Nat) (p0 : List UInt8) (p1 : Int) : Option (List UInt8) :=
  (wire_PutUint N p0 (iXor .u64 (IntKind.wrap .u64 ((IntKind.wrap .u64 p1) * 2 ^ 1)) (IntKind.wrap .u64 (Int.fdiv p1 (2 ^ 63))))).bind fun y1 => some y1

set_option maxHeartbeats 4000000 in
set_option maxRecDepth 100000 in
theorem wire_PutInt_ok {N : Nat} {m : Mem} {own : List Piece} {w : World} {p0 : List UInt8} {p1 : Int} {a1 : Option Addr} {c1 : Nat} {r : List UInt8} (st : St m (own) w) (r1 : RepS cU8 m a1 c1 p0) (hr : wire_PutInt N p0 p1 = some r) : Calls Go.Proofs.Try.prog 44 #[.slice a1 (List.length p0) c1, .int .i64 p1] w fun e w' => ∃ (ra1 : Option Addr) (rc1 : Nat) (m' : Mem), e = .returned (.slice ra1 (List.length r) rc1) ∧ m.le m' ∧ St m' (.room ra1 (List.length r) rc1 5 1 :: own) w' ∧ RepS cU8 m' ra1 rc1 r := by
  unfold wire_PutInt at hr
  have hm := m.le_refl
  refine W_calls Go.Proofs.Try.func44 rfl Go.Proofs.Try.ntmps44 [(0, .slice a1 (List.length p0) c1), (1, .int .i64 p1)] (by kernel_rfl) rfl ?_
  refine W_seq ?_
  refine W_region ?_
  refine WO_seg 1 [] (by kernel_rfl) (by kernel_rfl) ?_
  refine WO_end rfl ?_
  refine X_then ?_
  refine W_seq ?_
  refine W_region ?_
  refine WO_seg 8 [(5, .slice a1 (List.length p0) c1), (12, .int .u64 (iXor .u64 (IntKind.wrap .u64 ((IntKind.wrap .u64 p1) * 2 ^ 1)) (IntKind.wrap .u64 (Int.fdiv p1 (2 ^ 63)))))] (by kernel_rfl) (by kernel_rfl) ?_
  replace hr := bindS hr
  obtain ⟨y1, hx1, hr⟩ := hr
  refine WO_one rfl (One_fn 13 45 #[.slice a1 (List.length p0) c1, .int .u64 (iXor .u64 (IntKind.wrap .u64 ((IntKind.wrap .u64 p1) * 2 ^ 1)) (IntKind.wrap .u64 (Int.fdiv p1 (2 ^ 63))))] (by kernel_rfl) rfl ?_)
  refine (wire_PutUint_ok st r1 hx1).mono ?_
  clear st
  rintro _ w1 ⟨a2, c2, m1, rfl, hle1, st, r2⟩
  refine ⟨_, rfl, ?_⟩
  have hm := Mem.le_trans hm hle1
  have r1 := r1.mono hle1
  refine WO_seg 1 [(4, .slice a2 (List.length y1) c2)] (by kernel_rfl) (by kernel_rfl) ?_
  refine WO_end rfl ?_
  refine X_then ?_
  refine W_ret ?_
  obtain rfl := Option.some.inj hr
  refine X_ret [.tmp 4] [.slice a2 (List.length y1) c2] rfl (ResAll.cons (ResAt.tmp (by kernel_rfl)) ResAll.nil) ?_
  exact ⟨a2, c2, m1, rfl, hm, st, r2⟩

def wire_PutText (N : Nat) (p0 : List UInt8) (p1 : ByteArray) : Option (List UInt8) :=
  (wire_PutUint N p0 (IntKind.wrap .u64 (ByteArray.size p1 : Int))).bind fun y1 => (appendS 1 y1 p1.data.toList).bind fun l1 => some l1

set_option maxHeartbeats 4000000 in
set_option maxRecDepth 100000 in
theorem wire_PutText_ok {N : Nat} {m : Mem} {own : List Piece} {w : World} {p0 : List UInt8} {p1 : ByteArray} {a1 : Option Addr} {c1 : Nat} {r : List UInt8} (st : St m (own) w) (r1 : RepS cU8 m a1 c1 p0) (hr : wire_PutText N p0 p1 = some r) : Calls Go.Proofs.Try.prog 43 #[.slice a1 (List.length p0) c1, .string p1] w fun e w' => ∃ (ra1 : Option Addr) (rc1 : Nat) (m' : Mem), e = .returned (.slice ra1 (List.length r) rc1) ∧ m.le m' ∧ St m' (.room ra1 (List.length r) rc1 5 1 :: own) w' ∧ RepS cU8 m' ra1 rc1 r := by
  unfold wire_PutText at hr
  have hm := m.le_refl
  refine W_calls Go.Proofs.Try.func43 rfl Go.Proofs.Try.ntmps43 [(0, .slice a1 (List.length p0) c1), (1, .string p1)] (by kernel_rfl) rfl ?_
  refine W_seq ?_
  refine W_region ?_
  refine WO_seg 1 [] (by kernel_rfl) (by kernel_rfl) ?_
  refine WO_end rfl ?_
  refine X_then ?_
  refine W_seq ?_
  refine W_region ?_
  refine WO_seg 4 [(5, .slice a1 (List.length p0) c1), (8, .int .u64 (IntKind.wrap .u64 (ByteArray.size p1 : Int)))] (by kernel_rfl) (by kernel_rfl) ?_
  replace hr := bindS hr
  obtain ⟨y1, hx1, hr⟩ := hr
  refine WO_one rfl (One_fn 9 45 #[.slice a1 (List.length p0) c1, .int .u64 (IntKind.wrap .u64 (ByteArray.size p1 : Int))] (by kernel_rfl) rfl ?_)
  refine (wire_PutUint_ok st r1 hx1).mono ?_
  clear st
  rintro _ w1 ⟨a2, c2, m1, rfl, hle1, st, r2⟩
  refine ⟨_, rfl, ?_⟩
  have hm := Mem.le_trans hm hle1
  have r1 := r1.mono hle1
  refine WO_seg 1 [(10, .string p1)] (by kernel_rfl) (by kernel_rfl) ?_
  replace hr := bindS hr
  obtain ⟨l1, hx2, hr⟩ := hr
  refine WO_one rfl (One_append (d := 11) (t := 50) (u := 9) (e := 5) (by_ := 1) (x := (.tmp 9)) (y := (.tmp 10)) cU8 (by kernel_rfl) rfl (show evL _ _ = some (.slice a2 (List.length y1) c2) from (by kernel_rfl)) (show evL _ _ = some (.string p1) from (by kernel_rfl)) st (by kernel_rfl) (.inr (by kernel_rfl)) r2 (Gives.str _) hx2 ?_)
  clear st
  intro a3 c3 m2 w2 hle2 st r3
  have hm := Mem.le_trans hm hle2
  have r1 := r1.mono hle2
  have r2 := r2.mono hle2
  refine WO_seg 1 [(4, .slice a3 (List.length l1) c3)] (by kernel_rfl) (by kernel_rfl) ?_
  refine WO_end rfl ?_
  refine X_then ?_
  refine W_ret ?_
  obtain rfl := Option.some.inj hr
  refine X_ret [.tmp 4] [.slice a3 (List.length l1) c3] rfl (ResAll.cons (ResAt.tmp (by kernel_rfl)) ResAll.nil) ?_
  exact ⟨a3, c3, m2, rfl, hm, st, r3⟩

def wire_Text (N : Nat) (p0 : List UInt8) (p1 : Int) (p2 : Int) : Option (ByteArray × Int × Int) :=
  (wire_Uint N p0 p1).bind fun y1 => if (y1.2.2 != 0) = true then (some ((⟨#[]⟩ : ByteArray), 0, y1.2.2)) else ((if (decide (p2 < 0)) = true then (some true) else (some (decide (y1.1 > (IntKind.wrap .u64 p2)))) : Option (Bool)).bind fun o1 => if o1 = true then (some ((⟨#[]⟩ : ByteArray), 0, 2)) else (if (decide (y1.1 > (IntKind.wrap .u64 (IntKind.wrap .i64 ((List.length p0 : Int) - y1.2.1))))) = true then (some ((⟨#[]⟩ : ByteArray), 0, 7)) else ((subS p0 y1.2.1 (IntKind.wrap .i64 (y1.2.1 + (IntKind.wrap .i64 y1.1)))).bind fun l1 => some (strOf l1, IntKind.wrap .i64 (y1.2.1 + (IntKind.wrap .i64 y1.1)), 0))))

set_option maxHeartbeats 4000000 in
set_option maxRecDepth 100000 in
theorem wire_Text_ok {N : Nat} {m : Mem} {own : List Piece} {w : World} {p0 : List UInt8} {p1 : Int} {p2 : Int} {a1 : Option Addr} {c1 : Nat} {r : ByteArray × Int × Int} (st : St m (own) w) (r1 : RepS cU8 m a1 c1 p0) (hr : wire_Text N p0 p1 p2 = some r) : Calls Go.Proofs.Try.prog 53 #[.slice a1 (List.length p0) c1, .int .i64 p1, .int .i64 p2] w fun e w' => ∃ (m' : Mem), e = .returned (.tuple #[.string r.1, .int .i64 r.2.1, .int .i64 r.2.2]) ∧ m.le m' ∧ St m' (own) w' := by
  unfold wire_Text at hr
  have hm := m.le_refl
  refine W_calls Go.Proofs.Try.func53 rfl Go.Proofs.Try.ntmps53 [(0, .slice a1 (List.length p0) c1), (1, .int .i64 p1), (2, .int .i64 p2)] (by kernel_rfl) rfl ?_
  refine W_seq ?_
  refine W_region ?_
  refine WO_seg 3 [] (by kernel_rfl) (by kernel_rfl) ?_
  refine WO_end rfl ?_
  refine X_then ?_
  refine W_seq ?_
  refine W_region ?_
  refine WO_seg 2 [(12, .slice a1 (List.length p0) c1), (13, .int .i64 p1)] (by kernel_rfl) (by kernel_rfl) ?_
  replace hr := bindS hr
  obtain ⟨y1, hx1, hr⟩ := hr
  refine WO_one rfl (One_fn 14 49 #[.slice a1 (List.length p0) c1, .int .i64 p1] (by kernel_rfl) rfl ?_)
  refine (wire_Uint_ok st r1 hx1).mono ?_
  clear st
  rintro _ w1 ⟨m1, rfl, hle1, st⟩
  refine ⟨_, rfl, ?_⟩
  have hm := Mem.le_trans hm hle1
  have r1 := r1.mono hle1
  refine WO_seg 7 [(9, .int .u64 y1.1), (7, .int .i64 y1.2.1), (8, .int .i64 y1.2.2)] (by kernel_rfl) (by kernel_rfl) ?_
  refine WO_end rfl ?_
  refine X_then ?_
  refine W_seq ?_
  refine W_block ?_
  refine W_seq ?_
  refine W_region ?_
  refine WO_seg 3 [(18, .bool (y1.2.2 != 0))] (by kernel_rfl) (by kernel_rfl) ?_
  refine WO_end rfl ?_
  refine X_then ?_
  refine W_cond (y1.2.2 != 0) (by kernel_rfl) ?_ ?_
  · intro hc
    rw [if_pos hc] at hr
    refine W_seq ?_
    refine W_region ?_
    refine WO_seg 4 [(6, .string (⟨#[]⟩ : ByteArray)), (7, .int .i64 0), (8, .int .i64 y1.2.2)] (by kernel_rfl) (by kernel_rfl) ?_
    refine WO_end rfl ?_
    refine X_then ?_
    refine W_ret ?_
    refine X_block_ret ?_
    refine X_then_ret ?_
    obtain rfl := Option.some.inj hr
    refine X_ret [.tmp 6, .tmp 7, .tmp 8] [.string (⟨#[]⟩ : ByteArray), .int .i64 0, .int .i64 y1.2.2] rfl (ResAll.cons (ResAt.tmp (by kernel_rfl)) (ResAll.cons (ResAt.tmp (by kernel_rfl)) (ResAll.cons (ResAt.tmp (by kernel_rfl)) ResAll.nil))) ?_
    exact ⟨m1, rfl, hm, st⟩
  · intro hc
    rw [if_neg (not_true hc)] at hr
    refine W_seq ?_
    refine W_region ?_
    replace hr := bindS hr
    obtain ⟨o1, hr, hrK⟩ := hr
    refine WO_cut (j := 9) (fun L' w' => ∃ (m2 : Mem), L' = [(0, .slice a1 (List.length p0) c1), (7, .int .i64 y1.2.1), (9, .int .u64 y1.1), (22, .bool o1)] ∧ m.le m2 ∧ St m2 (own) w' ∧ RepS cU8 m2 a1 c1 p0) ?_ ?_
    · clear hr st
      have hr := hrK
      clear hrK
      rintro _ w2 ⟨m2, rfl, hm, st, r1⟩
      refine WO_end rfl ?_
      refine X_then ?_
      refine W_cond o1 (by kernel_rfl) ?_ ?_
      · intro hc
        rw [if_pos hc] at hr
        refine W_seq ?_
        refine W_region ?_
        refine WO_seg 3 [(6, .string (⟨#[]⟩ : ByteArray)), (7, .int .i64 0), (8, .int .i64 2)] (by kernel_rfl) (by kernel_rfl) ?_
        refine WO_end rfl ?_
        refine X_then ?_
        refine W_ret ?_
        refine X_block_ret ?_
        refine X_then_ret ?_
        obtain rfl := Option.some.inj hr
        refine X_ret [.tmp 6, .tmp 7, .tmp 8] [.string (⟨#[]⟩ : ByteArray), .int .i64 0, .int .i64 2] rfl (ResAll.cons (ResAt.tmp (by kernel_rfl)) (ResAll.cons (ResAt.tmp (by kernel_rfl)) (ResAll.cons (ResAt.tmp (by kernel_rfl)) ResAll.nil))) ?_
        exact ⟨m2, rfl, hm, st⟩
      · intro hc
        rw [if_neg (not_true hc)] at hr
        refine W_seq ?_
        refine W_region ?_
        refine WO_seg 8 [(31, .bool (decide (y1.1 > (IntKind.wrap .u64 (IntKind.wrap .i64 ((List.length p0 : Int) - y1.2.1))))))] (by kernel_rfl) (by kernel_rfl) ?_
        refine WO_end rfl ?_
        refine X_then ?_
        refine W_cond (decide (y1.1 > (IntKind.wrap .u64 (IntKind.wrap .i64 ((List.length p0 : Int) - y1.2.1))))) (by kernel_rfl) ?_ ?_
        · intro hc
          rw [if_pos hc] at hr
          refine W_seq ?_
          refine W_region ?_
          refine WO_seg 3 [(6, .string (⟨#[]⟩ : ByteArray)), (7, .int .i64 0), (8, .int .i64 7)] (by kernel_rfl) (by kernel_rfl) ?_
          refine WO_end rfl ?_
          refine X_then ?_
          refine W_ret ?_
          refine X_block_ret ?_
          refine X_then_ret ?_
          obtain rfl := Option.some.inj hr
          refine X_ret [.tmp 6, .tmp 7, .tmp 8] [.string (⟨#[]⟩ : ByteArray), .int .i64 0, .int .i64 7] rfl (ResAll.cons (ResAt.tmp (by kernel_rfl)) (ResAll.cons (ResAt.tmp (by kernel_rfl)) (ResAll.cons (ResAt.tmp (by kernel_rfl)) ResAll.nil))) ?_
          exact ⟨m2, rfl, hm, st⟩
        · intro hc
          rw [if_neg (not_true hc)] at hr
          refine W_skip ?_
          refine X_block ?_
          refine X_then ?_
          refine W_seq ?_
          refine W_region ?_
          refine WO_seg 5 [(10, .int .i64 (IntKind.wrap .i64 (y1.2.1 + (IntKind.wrap .i64 y1.1))))] (by kernel_rfl) (by kernel_rfl) ?_
          refine WO_end rfl ?_
          refine X_then ?_
          refine W_seq ?_
          refine W_region ?_
          refine WO_seg 3 [(43, .slice a1 (List.length p0) c1), (44, .int .i64 y1.2.1), (45, .int .i64 (IntKind.wrap .i64 (y1.2.1 + (IntKind.wrap .i64 y1.1))))] (by kernel_rfl) (by kernel_rfl) ?_
          replace hr := bindS hr
          obtain ⟨l1, hx2, hr⟩ := hr
          refine WO_one rfl (One_slice (d := 46) (t := 50) (e := 5) (x := (.tmp 43)) (lo := (some (.tmp 44))) (hi := (some (.tmp 45))) cU8 (by kernel_rfl) rfl (show evL _ _ = some (.slice a1 (List.length p0) c1) from (by kernel_rfl)) (by kernel_rfl) r1 (.inr ⟨_, _, rfl, (show evL _ _ = some (.int .i64 y1.2.1) from (by kernel_rfl))⟩) (.inr ⟨_, _, rfl, (show evL _ _ = some (.int .i64 (IntKind.wrap .i64 (y1.2.1 + (IntKind.wrap .i64 y1.1)))) from (by kernel_rfl))⟩) hx2 ?_)
          intro a2 c2 r2
          refine WO_one rfl (One_bytesStr (d := 47) (t1 := 50) (t2 := 9) (e := 5) (x := (.tmp 46)) (by kernel_rfl) rfl (show evL _ _ = some (.slice a2 (List.length l1) c2) from (by kernel_rfl)) (by kernel_rfl) (by kernel_rfl) st r2 ?_)
          refine WO_seg 4 [(6, .string (strOf l1)), (7, .int .i64 (IntKind.wrap .i64 (y1.2.1 + (IntKind.wrap .i64 y1.1)))), (8, .int .i64 0)] (by kernel_rfl) (by kernel_rfl) ?_
          refine WO_end rfl ?_
          refine X_then ?_
          refine W_ret ?_
          obtain rfl := Option.some.inj hr
          refine X_ret [.tmp 6, .tmp 7, .tmp 8] [.string (strOf l1), .int .i64 (IntKind.wrap .i64 (y1.2.1 + (IntKind.wrap .i64 y1.1))), .int .i64 0] rfl (ResAll.cons (ResAt.tmp (by kernel_rfl)) (ResAll.cons (ResAt.tmp (by kernel_rfl)) (ResAll.cons (ResAt.tmp (by kernel_rfl)) ResAll.nil))) ?_
          exact ⟨m2, rfl, hm, st⟩
    · intro K
      clear hrK
      refine WO_seg 3 [(25, .bool (decide (p2 < 0)))] (by kernel_rfl) (by kernel_rfl) ?_
      rcases bcases (decide (p2 < 0)) with hc | hc
      · rw [if_pos hc] at hr
        refine WO_fact (t := 25) (b := true) (decide (p2 < 0)) (by kernel_rfl) hc ?_
        refine WO_seg 6 [(22, .bool true)] (by kernel_rfl) (by kernel_rfl) ?_
        obtain rfl := Option.some.inj hr
        exact WO_env _ (by kernel_rfl) (K _ _ ⟨m1, rfl, hm, st, r1⟩)
      · rw [if_neg (not_true hc)] at hr
        refine WO_fact (t := 25) (b := false) (decide (p2 < 0)) (by kernel_rfl) hc ?_
        refine WO_seg 6 [(22, .bool (decide (y1.1 > (IntKind.wrap .u64 p2))))] (by kernel_rfl) (by kernel_rfl) ?_
        obtain rfl := Option.some.inj hr
        exact WO_env _ (by kernel_rfl) (K _ _ ⟨m1, rfl, hm, st, r1⟩)

end Go.Proofs.Ytgkjigejejofkaa
