/- MADE BY gen.py: plain functions and the proofs that the Go functions compute them. No condition but those of each theorem. -/
import Derived.Test.YtgkjigejejofkaaProg
import Derived.Test.YtgkjigejejofkaaMap
namespace Go.Proofs.Ytgkjigejejofkaa
open Go Go.Dc

def testgatemake_Digits_B (N : Nat) (rec_testgatemake_Digits : (Int) → Option (ByteArray)) (p0 : Int) : Option (ByteArray) :=
  if (decide (p0 < 10)) = true then ((subB (⟨#[48, 49, 50, 51, 52, 53, 54, 55, 56, 57]⟩ : ByteArray) p0 (IntKind.wrap .i64 (p0 + 1))).bind fun s1 => some s1) else ((rec_testgatemake_Digits (IntKind.wrap .i64 (Int.tdiv p0 10))).bind fun y1 => (rec_testgatemake_Digits (Int.tmod p0 10)).bind fun y2 => (catB y1 y2).bind fun s2 => some s2)

def testgatemake_Digits_G (N : Nat) : Nat → ((Int) → Option (ByteArray))
  | 0 => (fun _ => none)
  | D + 1 => testgatemake_Digits_B N (testgatemake_Digits_G N D)

def testgatemake_Digits (N : Nat) (p0 : Int) : Option (ByteArray) := (testgatemake_Digits_G N N) p0

set_option maxHeartbeats 4000000 in
set_option maxRecDepth 100000 in
theorem testgatemake_Digits_B_ok {N : Nat} {rec_testgatemake_Digits : (Int) → Option (ByteArray)} (ih_testgatemake_Digits : ∀ {m : Mem} {own : List Piece} {w : World} {p0 : Int} {r : ByteArray} (st : St m (own) w) (hr : rec_testgatemake_Digits p0 = some r), Calls Go.Proofs.Try.prog 12 #[.int .i64 p0] w fun e w' => ∃ (m' : Mem), e = .returned (.string r) ∧ m.le m' ∧ St m' (own) w') {m : Mem} {own : List Piece} {w : World} {p0 : Int} {r : ByteArray} (st : St m (own) w) (hr : testgatemake_Digits_B N rec_testgatemake_Digits p0 = some r) : Calls Go.Proofs.Try.prog 12 #[.int .i64 p0] w fun e w' => ∃ (m' : Mem), e = .returned (.string r) ∧ m.le m' ∧ St m' (own) w' := by
  unfold testgatemake_Digits_B at hr
  have hm := m.le_refl
  refine W_calls Go.Proofs.Try.func12 rfl Go.Proofs.Try.ntmps12 [(0, .int .i64 p0)] (by kernel_rfl) rfl ?_
  refine W_seq ?_
  refine W_region ?_
  refine WO_seg 1 [] (by kernel_rfl) (by kernel_rfl) ?_
  refine WO_end rfl ?_
  refine X_then ?_
  refine W_seq ?_
  refine W_seq ?_
  refine W_region ?_
  refine WO_seg 2 [(4, .bool (decide (p0 < 10)))] (by kernel_rfl) (by kernel_rfl) ?_
  refine WO_end rfl ?_
  refine X_then ?_
  refine W_cond (decide (p0 < 10)) (by kernel_rfl) ?_ ?_
  · intro hc
    rw [if_pos hc] at hr
    refine W_seq ?_
    refine W_region ?_
    refine WO_seg 3 [(5, .int .i64 p0), (7, .int .i64 (IntKind.wrap .i64 (p0 + 1)))] (by kernel_rfl) (by kernel_rfl) ?_
    replace hr := bindS hr
    obtain ⟨s1, hx1, hr⟩ := hr
    refine WO_one rfl (One_strSlice (d := 8) (t := 9) (x := (.const (.string (⟨#[48, 49, 50, 51, 52, 53, 54, 55, 56, 57]⟩ : ByteArray)))) (lo := (some (.tmp 5))) (hi := (some (.tmp 7))) (by kernel_rfl) rfl (show evL _ _ = some (.string (⟨#[48, 49, 50, 51, 52, 53, 54, 55, 56, 57]⟩ : ByteArray)) from (by kernel_rfl)) (by kernel_rfl) (.inr ⟨_, _, rfl, (show evL _ _ = some (.int .i64 p0) from (by kernel_rfl))⟩) (.inr ⟨_, _, rfl, (show evL _ _ = some (.int .i64 (IntKind.wrap .i64 (p0 + 1))) from (by kernel_rfl))⟩) hx1 ?_)
    refine WO_seg 1 [(2, .string s1)] (by kernel_rfl) (by kernel_rfl) ?_
    refine WO_end rfl ?_
    refine X_then ?_
    refine W_ret ?_
    refine X_then_ret ?_
    obtain rfl := Option.some.inj hr
    refine X_ret [.tmp 2] [.string s1] rfl (ResAll.cons (ResAt.tmp (by kernel_rfl)) ResAll.nil) ?_
    exact ⟨m, rfl, hm, st⟩
  · intro hc
    rw [if_neg (not_true hc)] at hr
    refine W_skip ?_
    refine X_then ?_
    refine W_seq ?_
    refine W_region ?_
    refine WO_seg 2 [(10, .int .i64 (IntKind.wrap .i64 (Int.tdiv p0 10)))] (by kernel_rfl) (by kernel_rfl) ?_
    replace hr := bindS hr
    obtain ⟨y1, hx2, hr⟩ := hr
    refine WO_one rfl (One_fn 11 12 #[.int .i64 (IntKind.wrap .i64 (Int.tdiv p0 10))] (by kernel_rfl) rfl ?_)
    refine (ih_testgatemake_Digits st hx2).mono ?_
    clear st
    rintro _ w1 ⟨m1, rfl, hle1, st⟩
    refine ⟨_, rfl, ?_⟩
    have hm := Mem.le_trans hm hle1
    refine WO_seg 2 [(13, .int .i64 (Int.tmod p0 10))] (by kernel_rfl) (by kernel_rfl) ?_
    replace hr := bindS hr
    obtain ⟨y2, hx3, hr⟩ := hr
    refine WO_one rfl (One_fn 14 12 #[.int .i64 (Int.tmod p0 10)] (by kernel_rfl) rfl ?_)
    refine (ih_testgatemake_Digits st hx3).mono ?_
    clear st
    rintro _ w2 ⟨m2, rfl, hle2, st⟩
    refine ⟨_, rfl, ?_⟩
    have hm := Mem.le_trans hm hle2
    replace hr := bindS hr
    obtain ⟨s2, hx4, hr⟩ := hr
    refine WO_one rfl (One_cat (d := 15) (t := 9) (t2 := 9) (x := (.tmp 11)) (y := (.tmp 14)) (by kernel_rfl) rfl (show evL _ _ = some (.string y1) from (by kernel_rfl)) (show evL _ _ = some (.string y2) from (by kernel_rfl)) hx4 ?_)
    refine WO_seg 1 [(2, .string s2)] (by kernel_rfl) (by kernel_rfl) ?_
    refine WO_end rfl ?_
    refine X_then ?_
    refine W_ret ?_
    obtain rfl := Option.some.inj hr
    refine X_ret [.tmp 2] [.string s2] rfl (ResAll.cons (ResAt.tmp (by kernel_rfl)) ResAll.nil) ?_
    exact ⟨m2, rfl, hm, st⟩

theorem testgatemake_Digits_G_ok (N : Nat) : ∀ D : Nat, (∀ {m : Mem} {own : List Piece} {w : World} {p0 : Int} {r : ByteArray} (st : St m (own) w) (hr : (testgatemake_Digits_G N D) p0 = some r), Calls Go.Proofs.Try.prog 12 #[.int .i64 p0] w fun e w' => ∃ (m' : Mem), e = .returned (.string r) ∧ m.le m' ∧ St m' (own) w')
  | 0 => fun _  hr => by cases hr
  | D + 1 => fun st  hr => testgatemake_Digits_B_ok (testgatemake_Digits_G_ok N D) st  hr

theorem testgatemake_Digits_ok {N : Nat} {m : Mem} {own : List Piece} {w : World} {p0 : Int} {r : ByteArray} (st : St m (own) w) (hr : testgatemake_Digits N p0 = some r) : Calls Go.Proofs.Try.prog 12 #[.int .i64 p0] w fun e w' => ∃ (m' : Mem), e = .returned (.string r) ∧ m.le m' ∧ St m' (own) w' :=
  (testgatemake_Digits_G_ok N N) st  hr

def contents_numbers_L1 (N : Nat) (p0 : List ByteArray) (s1 : Int × (Option (List (ByteArray × Int)))) : Option ((Int × (Option (List (ByteArray × Int)))) ⊕ (((Option (List (ByteArray × Int)))) ⊕ ((Option (List (ByteArray × Int))) × Bool))) :=
  if (decide (s1.1 < (List.length p0 : Int))) = true then ((idx p0 s1.1).bind fun x1 => if ((mgetQ s1.2 x1).isSome) = true then (some (.inr (.inr (((none : Option (List (ByteArray × Int))), false))))) else ((msetQ s1.2 x1 s1.1).bind fun mp1 => some (.inl (IntKind.wrap .i64 (s1.1 + 1), mp1)))) else (some (.inr (.inl s1.2)))

def contents_numbers (N : Nat) (p0 : List ByteArray) : Option ((Option (List (ByteArray × Int))) × Bool) :=
  (loopM (contents_numbers_L1 N p0) N (0, (some [] : Option (List (ByteArray × Int))))).bind fun out1 => (match out1 with | .inl o1 => some (o1, true) | .inr (z) => some z)

set_option maxHeartbeats 4000000 in
set_option maxRecDepth 100000 in
theorem contents_numbers_ok {N : Nat} {m : Mem} {own : List Piece} {w : World} {p0 : List ByteArray} {a1 : Option Addr} {c1 : Nat} {r : (Option (List (ByteArray × Int))) × Bool} (st : St m (own) w) (r1 : RepS cStr m a1 c1 p0) (hr : contents_numbers N p0 = some r) : Calls Go.Proofs.Try.prog 62 #[.agg #[.slice a1 (List.length p0) c1]] w fun e w' => ∃ (rq1 : Option Nat) (re1 : Array MapEntry) (rk1 : Nat) (m' : Mem), e = .returned (.tuple #[.map rq1, .bool r.2]) ∧ m.le m' ∧ St m' (mpiece rq1 re1 rk1 :: own) w' ∧ MapQ (fun s : ByteArray => Value.string s) (cInt .i64) false m' rq1 re1 r.1 := by
  unfold contents_numbers at hr
  have hm := m.le_refl
  refine W_calls Go.Proofs.Try.func62 rfl Go.Proofs.Try.ntmps62 [(0, .agg #[.slice a1 (List.length p0) c1])] (by kernel_rfl) rfl ?_
  refine W_seq ?_
  refine W_region ?_
  refine WO_one rfl (One_box (d := 1) (e := 24) (x := (.tmp 0)) (.agg #[.slice a1 (List.length p0) c1]) (by kernel_rfl) rfl (by kernel_rfl) st ?_)
  clear st
  intro b1 m1 w1 hle1 st hb1
  have hm := Mem.le_trans hm hle1
  have r1 := r1.mono hle1
  refine WO_seg 2 [] (by kernel_rfl) (by kernel_rfl) ?_
  refine WO_end rfl ?_
  refine X_then ?_
  refine W_seq ?_
  refine W_region ?_
  refine WO_one rfl (One_makeMap (d := 9) (t := 92) (by kernel_rfl) rfl st ?_)
  clear st
  intro b2 w2 st
  refine WO_seg 1 [(4, .map (some b2))] (by kernel_rfl) (by kernel_rfl) ?_
  refine WO_end rfl ?_
  refine X_then ?_
  refine W_seq ?_
  refine W_seq ?_
  refine W_region ?_
  refine WO_seg 1 [(10, .pointer (some ⟨b1, 0, none⟩))] (by kernel_rfl) (by kernel_rfl) ?_
  refine WO_one rfl (One_load_row (d := 11) (t := 22) (x := (.tmp 10)) (.slice a1 (List.length p0) c1) (by kernel_rfl) rfl (show evL _ _ = some (.pointer (some ⟨b1, 0, none⟩)) from (by kernel_rfl)) st hb1 (by kernel_rfl) ?_)
  refine WO_seg 2 [(12, .int .i64 (List.length p0 : Int)), (13, .int .i64 0)] (by kernel_rfl) (by kernel_rfl) ?_
  refine WO_end rfl ?_
  refine X_then ?_
  refine W_block ?_
  replace hr := bindS hr
  obtain ⟨out1, hr, hrKu1⟩ := hr
  refine W_cut (.exit 0) (fun L' w' => ∃ (o1 : (Option (List (ByteArray × Int)))) (es1 : Array MapEntry) (ck1 : Nat) (m2 : Mem), (.inl o1) = out1 ∧ L' = [(4, .map (some b2))] ∧ m.le m2 ∧ St m2 (mpiece (some b2) es1 ck1 :: own) w' ∧ MapQ (fun s : ByteArray => Value.string s) (cInt .i64) false m2 (some b2) es1 o1) ?_ ?_
  · clear hr st
    rintro _ w3 ⟨o1, es1, ck1, m2, rfl, rfl, hm, st, r2⟩
    have hr := hrKu1
    clear hrKu1
    dsimp only at hr
    refine X_block_eq ?_
    refine X_then ?_
    refine W_seq ?_
    refine W_region ?_
    refine WO_seg 3 [(2, .map (some b2)), (3, .bool true)] (by kernel_rfl) (by kernel_rfl) ?_
    refine WO_end rfl ?_
    refine X_then ?_
    refine W_ret ?_
    obtain rfl := Option.some.inj hr
    refine X_ret [.tmp 2, .tmp 3] [.map (some b2), .bool true] rfl (ResAll.cons (ResAt.tmp (by kernel_rfl)) (ResAll.cons (ResAt.tmp (by kernel_rfl)) ResAll.nil)) ?_
    exact ⟨(some b2), es1, ck1, m2, rfl, hm, st, r2⟩
  intro K0_u1
  refine W_env _ (by kernel_rfl) (W_loop (fun k1 L' w' => ∃ (s1 : Int × (Option (List (ByteArray × Int)))) (es2 : Array MapEntry) (ck2 : Nat) (m3 : Mem), loopM (contents_numbers_L1 N p0) k1 s1 = some out1 ∧ L' = [(4, .map (some b2)), (11, .slice a1 (List.length p0) c1), (12, .int .i64 (List.length p0 : Int)), (13, .int .i64 s1.1)] ∧ m.le m3 ∧ St m3 (mpiece (some b2) es2 ck2 :: own) w' ∧ RepS cStr m3 a1 c1 p0 ∧ MapQ (fun s : ByteArray => Value.string s) (cInt .i64) false m3 (some b2) es2 s1.2) N ⟨(0, (some [] : Option (List (ByteArray × Int)))), #[], 0, m1, hr, rfl, hm, st, r1, (MapQ.new (fun s : ByteArray => Value.string s) (cInt .i64) false _ _)⟩ ?_)
  clear st hr
  rintro k1 _ w4 ⟨s1, es2, ck2, m3, hL, rfl, hm, st, r1, r3⟩
  rcases k1 with _ | k1
  · exact loopM_zero hL
  · obtain ⟨qu1, hr, hSu1, hBu1⟩ := loopM_succ hL
    clear hL
    unfold contents_numbers_L1 at hr
    refine W_seq ?_
    refine W_region ?_
    refine WO_seg 1 [(14, .bool (decide (s1.1 < (List.length p0 : Int))))] (by kernel_rfl) (by kernel_rfl) ?_
    refine WO_end rfl ?_
    refine X_then ?_
    refine W_seq ?_
    refine W_cond (decide (s1.1 < (List.length p0 : Int))) (by kernel_rfl) ?_ ?_
    · intro hc
      rw [if_pos hc] at hr
      refine W_skip ?_
      refine X_then ?_
      refine W_seq ?_
      refine W_block ?_
      refine W_seq ?_
      refine W_region ?_
      refine WO_seg 1 [(15, .int .i64 s1.1)] (by kernel_rfl) (by kernel_rfl) ?_
      replace hr := bindS hr
      obtain ⟨x1, hx1, hr⟩ := hr
      refine WO_one rfl (One_index (d := 16) (t := 22) (e := 9) (x := (.tmp 11)) (y := (.tmp 13)) cStr (by kernel_rfl) rfl (show evL _ _ = some (.slice a1 (List.length p0) c1) from (by kernel_rfl)) (show evL _ _ = some (.int .i64 s1.1) from (by kernel_rfl)) (by kernel_rfl) r1 hx1 ?_)
      rintro b3 f1 cs1 rfl hq1
      refine WO_one rfl (One_load_row (d := 17) (t := 9) (x := (.tmp 16)) (.string x1) (by kernel_rfl) rfl (show evL _ _ = some (.pointer (some ⟨b3, f1, none⟩)) from (by kernel_rfl)) st hq1 (by kernel_rfl) ?_)
      refine WO_seg 2 [(5, .int .i64 s1.1), (6, .string x1)] (by kernel_rfl) (by kernel_rfl) ?_
      refine WO_end rfl ?_
      refine X_then ?_
      refine W_seq ?_
      refine W_seq ?_
      refine W_region ?_
      refine WO_seg 2 [(19, .map (some b2)), (20, .string x1)] (by kernel_rfl) (by kernel_rfl) ?_
      refine WO_one rfl (One_lookup (ek := (fun s : ByteArray => Value.string s)) (c := (cInt .i64)) (agg := false) (k := x1) (zx := 0) (zcs := [.int .i64 0]) (z := (.int .i64 0)) (kt := 9) (et := 3) (d := 21) (t := 92) (x := (.tmp 19)) (y := (.tmp 20)) (ok := true) (by kernel_rfl) rfl (show evL _ _ = some (.map (some b2)) from (by kernel_rfl)) (show evL _ _ = some (.string x1) from (by kernel_rfl)) (by kernel_rfl) (keyStr (by kernel_rfl)) st.head r3 rfl rfl ?_)
      rintro cs2 rfl
      refine WO_seg 5 [(8, .bool ((mgetQ s1.2 x1).isSome))] (by kernel_rfl) (by kernel_rfl) ?_
      refine WO_end rfl ?_
      refine X_then ?_
      refine W_seq ?_
      refine W_region ?_
      refine WO_seg 1 [(24, .bool ((mgetQ s1.2 x1).isSome))] (by kernel_rfl) (by kernel_rfl) ?_
      refine WO_end rfl ?_
      refine X_then ?_
      refine W_cond ((mgetQ s1.2 x1).isSome) (by kernel_rfl) ?_ ?_
      · intro hc
        rw [if_pos hc] at hr
        refine W_seq ?_
        refine W_region ?_
        refine WO_seg 2 [(2, .map none), (3, .bool false)] (by kernel_rfl) (by kernel_rfl) ?_
        refine WO_end rfl ?_
        refine X_then ?_
        refine W_ret ?_
        refine X_then_ret ?_
        refine X_block_ret ?_
        refine X_then_ret ?_
        obtain rfl := Option.some.inj hr
        have ho := hBu1 _ rfl
        subst ho
        have hr := hrKu1
        dsimp only at hr
        refine X_then_ret ?_
        refine X_block_ret ?_
        refine X_then_ret ?_
        obtain rfl := Option.some.inj hr
        refine X_ret [.tmp 2, .tmp 3] [.map none, .bool false] rfl (ResAll.cons (ResAt.tmp (by kernel_rfl)) (ResAll.cons (ResAt.tmp (by kernel_rfl)) ResAll.nil)) ?_
        have st := nil_mpiece st
        have st := st.front1
        have st := st.tail
        exact ⟨none, #[], 0, m3, rfl, hm, st, (MapQ.nil _ _ _ _ _)⟩
      · intro hc
        rw [if_neg (not_true hc)] at hr
        refine W_skip ?_
        refine X_then ?_
        refine W_region ?_
        refine WO_seg 3 [(25, .map (some b2)), (26, .string x1), (27, .int .i64 s1.1)] (by kernel_rfl) (by kernel_rfl) ?_
        replace hr := bindS hr
        obtain ⟨mp1, hx2, hr⟩ := hr
        refine WO_one rfl (One_mapUpdate (ek := (fun s : ByteArray => Value.string s)) (c := (cInt .i64)) (agg := false) (k := x1) (yv := s1.1) (cs := [.int .i64 s1.1]) (z := (.int .i64 0)) (v := (.int .i64 s1.1)) (kt := 9) (et := 3) (t := 92) (x := (.tmp 25)) (y := (.tmp 26)) (u := (.tmp 27)) (by kernel_rfl) (show evL _ _ = some (.map (some b2)) from (by kernel_rfl)) (show evL _ _ = some (.string x1) from (by kernel_rfl)) (show evL _ _ = some (.int .i64 s1.1) from (by kernel_rfl)) (by kernel_rfl) (keyStr (by kernel_rfl)) st r3 rfl rfl hx2 ?_)
        clear st
        intro es3 ck3 w5 st r4
        refine WO_end rfl ?_
        refine X_block ?_
        refine X_then ?_
        refine W_region ?_
        refine WO_seg 2 [(13, .int .i64 (IntKind.wrap .i64 (s1.1 + 1)))] (by kernel_rfl) (by kernel_rfl) ?_
        refine WO_end rfl ?_
        obtain rfl := Option.some.inj hr
        have hL := hSu1 _ rfl
        exact X_env _ (by kernel_rfl) (X_round k1 (Nat.lt_succ_self _) ⟨(IntKind.wrap .i64 (s1.1 + 1), mp1), es3, ck3, m3, hL, rfl, hm, st, r1, r4⟩)
    · intro hc
      rw [if_neg (not_true hc)] at hr
      refine W_exit ?_
      refine X_then_exit ?_
      obtain rfl := Option.some.inj hr
      have ho := hBu1 _ rfl
      refine X_then_exit ?_
      exact X_env _ (by kernel_rfl) (K0_u1 _ _ ⟨s1.2, es2, ck2, m3, ho, rfl, hm, st, r3⟩)

def contents_Check (N : Nat) (p0 : List ByteArray) : Option (Int) :=
  if (decide ((List.length p0 : Int) > 4096)) = true then (some 2) else ((contents_numbers N p0).bind fun y1 => if (!y1.2) = true then (some 10) else (some 0))

set_option maxHeartbeats 4000000 in
set_option maxRecDepth 100000 in
theorem contents_Check_ok {N : Nat} {m : Mem} {own : List Piece} {w : World} {p0 : List ByteArray} {a1 : Option Addr} {c1 : Nat} {r : Int} (st : St m (own) w) (r1 : RepS cStr m a1 c1 p0) (hr : contents_Check N p0 = some r) : Calls Go.Proofs.Try.prog 14 #[.agg #[.slice a1 (List.length p0) c1]] w fun e w' => ∃ (m' : Mem), e = .returned (.int .i64 r) ∧ m.le m' ∧ St m' (own) w' := by
  unfold contents_Check at hr
  have hm := m.le_refl
  refine W_calls Go.Proofs.Try.func14 rfl Go.Proofs.Try.ntmps14 [(0, .agg #[.slice a1 (List.length p0) c1])] (by kernel_rfl) rfl ?_
  refine W_seq ?_
  refine W_region ?_
  refine WO_one rfl (One_box (d := 1) (e := 24) (x := (.tmp 0)) (.agg #[.slice a1 (List.length p0) c1]) (by kernel_rfl) rfl (by kernel_rfl) st ?_)
  clear st
  intro b1 m1 w1 hle1 st hb1
  have hm := Mem.le_trans hm hle1
  have r1 := r1.mono hle1
  refine WO_seg 1 [] (by kernel_rfl) (by kernel_rfl) ?_
  refine WO_end rfl ?_
  refine X_then ?_
  refine W_seq ?_
  refine W_seq ?_
  refine W_region ?_
  refine WO_seg 1 [(5, .pointer (some ⟨b1, 0, none⟩))] (by kernel_rfl) (by kernel_rfl) ?_
  refine WO_one rfl (One_load_row (d := 6) (t := 22) (x := (.tmp 5)) (.slice a1 (List.length p0) c1) (by kernel_rfl) rfl (show evL _ _ = some (.pointer (some ⟨b1, 0, none⟩)) from (by kernel_rfl)) st hb1 (by kernel_rfl) ?_)
  refine WO_seg 2 [(8, .bool (decide ((List.length p0 : Int) > 4096)))] (by kernel_rfl) (by kernel_rfl) ?_
  refine WO_end rfl ?_
  refine X_then ?_
  refine W_cond (decide ((List.length p0 : Int) > 4096)) (by kernel_rfl) ?_ ?_
  · intro hc
    rw [if_pos hc] at hr
    refine W_seq ?_
    refine W_region ?_
    refine WO_seg 1 [(2, .int .i64 2)] (by kernel_rfl) (by kernel_rfl) ?_
    refine WO_end rfl ?_
    refine X_then ?_
    refine W_ret ?_
    refine X_then_ret ?_
    obtain rfl := Option.some.inj hr
    refine X_ret [.tmp 2] [.int .i64 2] rfl (ResAll.cons (ResAt.tmp (by kernel_rfl)) ResAll.nil) ?_
    exact ⟨m1, rfl, hm, st⟩
  · intro hc
    rw [if_neg (not_true hc)] at hr
    refine W_skip ?_
    refine X_then ?_
    refine W_seq ?_
    refine W_seq ?_
    refine W_region ?_
    refine WO_one rfl (One_load_row (d := 10) (t := 24) (x := (.tmp 1)) (.agg #[.slice a1 (List.length p0) c1]) (by kernel_rfl) rfl (show evL _ _ = some (.pointer (some ⟨b1, 0, none⟩)) from (by kernel_rfl)) st hb1 (by kernel_rfl) ?_)
    replace hr := bindS hr
    obtain ⟨y1, hx1, hr⟩ := hr
    refine WO_one rfl (One_fn 11 62 #[.agg #[.slice a1 (List.length p0) c1]] (by kernel_rfl) rfl ?_)
    refine (contents_numbers_ok st r1 hx1).mono ?_
    clear st
    rintro _ w2 ⟨q1, es1, ck1, m2, rfl, hle2, st, r2⟩
    refine ⟨_, rfl, ?_⟩
    have hm := Mem.le_trans hm hle2
    have hb1 := hb1.mono hle2
    have r1 := r1.mono hle2
    refine WO_seg 5 [(4, .bool y1.2)] (by kernel_rfl) (by kernel_rfl) ?_
    refine WO_end rfl ?_
    refine X_then ?_
    refine W_seq ?_
    refine W_region ?_
    refine WO_seg 2 [(15, .bool (!y1.2))] (by kernel_rfl) (by kernel_rfl) ?_
    refine WO_end rfl ?_
    refine X_then ?_
    refine W_cond (!y1.2) (by kernel_rfl) ?_ ?_
    · intro hc
      rw [if_pos hc] at hr
      refine W_seq ?_
      refine W_region ?_
      refine WO_seg 1 [(2, .int .i64 10)] (by kernel_rfl) (by kernel_rfl) ?_
      refine WO_end rfl ?_
      refine X_then ?_
      refine W_ret ?_
      refine X_then_ret ?_
      obtain rfl := Option.some.inj hr
      refine X_ret [.tmp 2] [.int .i64 10] rfl (ResAll.cons (ResAt.tmp (by kernel_rfl)) ResAll.nil) ?_
      have st := st.tail
      exact ⟨m2, rfl, hm, st⟩
    · intro hc
      rw [if_neg (not_true hc)] at hr
      refine W_skip ?_
      refine X_then ?_
      refine W_seq ?_
      refine W_region ?_
      refine WO_seg 1 [(2, .int .i64 0)] (by kernel_rfl) (by kernel_rfl) ?_
      refine WO_end rfl ?_
      refine X_then ?_
      refine W_ret ?_
      obtain rfl := Option.some.inj hr
      refine X_ret [.tmp 2] [.int .i64 0] rfl (ResAll.cons (ResAt.tmp (by kernel_rfl)) ResAll.nil) ?_
      have st := st.tail
      exact ⟨m2, rfl, hm, st⟩

def slices_Clone_string_string (N : Nat) (p0 : List ByteArray) : Option (List ByteArray) :=
  nilS p0 (some ([] : List (ByteArray))) ((appendS 16 ([] : List (ByteArray)) p0).bind fun l1 => some l1)

set_option maxHeartbeats 4000000 in
set_option maxRecDepth 100000 in
theorem slices_Clone_string_string_ok {N : Nat} {m : Mem} {own : List Piece} {w : World} {p0 : List ByteArray} {a1 : Option Addr} {c1 : Nat} {r : List ByteArray} (st : St m (own) w) (r1 : RepS cStr m a1 c1 p0) (hr : slices_Clone_string_string N p0 = some r) : Calls Go.Proofs.Try.prog 71 #[.slice a1 (List.length p0) c1] w fun e w' => ∃ (ra1 : Option Addr) (rc1 : Nat) (m' : Mem), e = .returned (.slice ra1 (List.length r) rc1) ∧ m.le m' ∧ St m' (.room ra1 (List.length r) rc1 9 1 :: own) w' ∧ RepS cStr m' ra1 rc1 r := by
  unfold slices_Clone_string_string at hr
  have hm := m.le_refl
  refine W_calls Go.Proofs.Try.func71 rfl Go.Proofs.Try.ntmps71 [(0, .slice a1 (List.length p0) c1)] (by kernel_rfl) rfl ?_
  refine W_seq ?_
  refine W_region ?_
  refine WO_seg 1 [] (by kernel_rfl) (by kernel_rfl) ?_
  refine WO_end rfl ?_
  refine X_then ?_
  refine W_seq ?_
  refine W_seq ?_
  refine W_region ?_
  refine WO_seg 1 [(3, .slice a1 (List.length p0) c1)] (by kernel_rfl) (by kernel_rfl) ?_
  rcases bcases (Option.isNone a1) with hnil | hnil
  · replace hr := nilS_true hr r1 hnil
    refine WO_one rfl (One_nileq (d := 4) (t := 22) (t2 := 22) (e := 9) (x := (.tmp 3)) (y := (.const (.slice none 0 0))) true (by kernel_rfl) rfl (show evL _ _ = some (.slice a1 (List.length p0) c1) from (by kernel_rfl)) (by kernel_rfl) rfl hnil ?_)
    refine WO_end rfl ?_
    refine X_then ?_
    refine W_cond true (by kernel_rfl) ?_ (fun h => Bool.noConfusion h)
    intro _
    refine W_seq ?_
    refine W_region ?_
    refine WO_seg 1 [(2, .slice none (List.length ([] : List (ByteArray))) 0)] (by kernel_rfl) (by kernel_rfl) ?_
    refine WO_end rfl ?_
    refine X_then ?_
    refine W_ret ?_
    refine X_then_ret ?_
    obtain rfl := Option.some.inj hr
    refine X_ret [.tmp 2] [.slice none (List.length ([] : List (ByteArray))) 0] rfl (ResAll.cons (ResAt.tmp (by kernel_rfl)) ResAll.nil) ?_
    have st := st.nilroom 9 1
    exact ⟨none, 0, m, rfl, hm, st, (RepS.nil _ _)⟩
  · replace hr := nilS_false hr
    refine WO_one rfl (One_nileq (d := 4) (t := 22) (t2 := 22) (e := 9) (x := (.tmp 3)) (y := (.const (.slice none 0 0))) false (by kernel_rfl) rfl (show evL _ _ = some (.slice a1 (List.length p0) c1) from (by kernel_rfl)) (by kernel_rfl) rfl hnil ?_)
    refine WO_end rfl ?_
    refine X_then ?_
    refine W_cond false (by kernel_rfl) (fun h => Bool.noConfusion h) ?_
    intro _
    refine W_skip ?_
    refine X_then ?_
    refine W_seq ?_
    refine W_region ?_
    refine WO_one rfl (One_buildSlice (d := 5) (t := 22) (e := 9) (len := 0) (parts := #[]) cStr (xs := ([] : List (ByteArray))) [] (by kernel_rfl) rfl (fun _ => buildEmpty_run (by simp) (by kernel_rfl) _) rfl rfl st rfl ?_)
    clear st
    intro b1 m1 w1 hle1 st r2
    have hm := Mem.le_trans hm hle1
    have r1 := r1.mono hle1
    refine WO_seg 1 [(6, .slice a1 (List.length p0) c1)] (by kernel_rfl) (by kernel_rfl) ?_
    replace hr := bindS hr
    obtain ⟨l1, hx1, hr⟩ := hr
    refine WO_one rfl (One_append (d := 7) (t := 22) (u := 22) (e := 9) (by_ := 16) (x := (.tmp 5)) (y := (.tmp 6)) cStr (by kernel_rfl) rfl (show evL _ _ = some (.slice (some ⟨b1, 0, none⟩) (List.length ([] : List (ByteArray))) 0) from (by kernel_rfl)) (show evL _ _ = some (.slice a1 (List.length p0) c1) from (by kernel_rfl)) st (by kernel_rfl) (.inl (by kernel_rfl)) r2 r1.src hx1 ?_)
    clear st
    intro a2 c2 m2 w2 hle2 st r3
    have hm := Mem.le_trans hm hle2
    have r1 := r1.mono hle2
    have r2 := r2.mono hle2
    refine WO_seg 1 [(2, .slice a2 (List.length l1) c2)] (by kernel_rfl) (by kernel_rfl) ?_
    refine WO_end rfl ?_
    refine X_then ?_
    refine W_ret ?_
    obtain rfl := Option.some.inj hr
    refine X_ret [.tmp 2] [.slice a2 (List.length l1) c2] rfl (ResAll.cons (ResAt.tmp (by kernel_rfl)) ResAll.nil) ?_
    exact ⟨a2, c2, m2, rfl, hm, st, r3⟩

def contents_Merge_L1 (N : Nat) (p1 : List ByteArray) (s1 : Int × List (ByteArray) × List (Int) × (Option (List (ByteArray × Int)))) : Option ((Int × List (ByteArray) × List (Int) × (Option (List (ByteArray × Int)))) ⊕ ((List (ByteArray) × List (Int) × (Option (List (ByteArray × Int)))) ⊕ (List (ByteArray) × Bool × List (Int)))) :=
  if (decide (s1.1 < (List.length p1 : Int))) = true then ((idx p1 s1.1).bind fun x1 => (if (!((mgetQ s1.2.2.2 x1).isSome)) = true then (if ((List.length s1.2.1 : Int) == 4096) = true then ((some (.inr (.inr ((([] : List (ByteArray)), false, s1.2.2.1))))).map .inr) else ((msetQ s1.2.2.2 x1 (List.length s1.2.1 : Int)).bind fun mp1 => (appendS 16 s1.2.1 ([x1])).bind fun l1 => some (.inl ((List.length s1.2.1 : Int), l1, mp1)))) else (some (.inl (((mgetQ s1.2.2.2 x1).getD 0), s1.2.1, s1.2.2.2))) : Option ((Int × List (ByteArray) × (Option (List (ByteArray × Int)))) ⊕ ((Int × List (ByteArray) × List (Int) × (Option (List (ByteArray × Int)))) ⊕ ((List (ByteArray) × List (Int) × (Option (List (ByteArray × Int)))) ⊕ (List (ByteArray) × Bool × List (Int)))))).bind fun qu3 => (match qu3 with | .inl o3 => (appendS 8 s1.2.2.1 ([o3.1])).bind fun l2 => some (.inl (IntKind.wrap .i64 (s1.1 + 1), o3.2.1, l2, o3.2.2)) | .inr z => some z)) else (some (.inr (.inl (s1.2.1, s1.2.2.1, s1.2.2.2))))

def contents_Merge (N : Nat) (p0 : List ByteArray) (p1 : List ByteArray) : Option (List ByteArray × List Int × Int) :=
  (contents_Check N p0).bind fun y1 => if (y1 != 0) = true then (some (([] : List (ByteArray)), ([] : List (Int)), y1)) else ((contents_Check N p1).bind fun y2 => if (y2 != 0) = true then (some (([] : List (ByteArray)), ([] : List (Int)), y2)) else (((contents_numbers N p0).bind fun y3 => (slices_Clone_string_string N p0).bind fun y4 => (loopM (contents_Merge_L1 N p1) N (0, y4, ([] : List (Int)), y3.1)).bind fun out1 => (match out1 with | .inl o2 => some (o2.1, true, o2.2.1) | .inr (z) => some z) : Option (List (ByteArray) × Bool × List (Int))).bind fun o1 => if (!o1.2.1) = true then (some (([] : List (ByteArray)), ([] : List (Int)), 2)) else (some (o1.1, o1.2.2, 0))))

set_option maxHeartbeats 4000000 in
set_option maxRecDepth 100000 in
theorem contents_Merge_ok {N : Nat} {m : Mem} {own : List Piece} {w : World} {p0 : List ByteArray} {p1 : List ByteArray} {a1 : Option Addr} {c1 : Nat} {a2 : Option Addr} {c2 : Nat} {r : List ByteArray × List Int × Int} (st : St m (own) w) (r1 : RepS cStr m a1 c1 p0) (r2 : RepS cStr m a2 c2 p1) (hr : contents_Merge N p0 p1 = some r) : Calls Go.Proofs.Try.prog 29 #[.agg #[.slice a1 (List.length p0) c1], .agg #[.slice a2 (List.length p1) c2]] w fun e w' => ∃ (ra1 : Option Addr) (rc1 : Nat) (ra2 : Option Addr) (rc2 : Nat) (m' : Mem), e = .returned (.tuple #[.agg #[.slice ra1 (List.length r.1) rc1], .slice ra2 (List.length r.2.1) rc2, .int .i64 r.2.2]) ∧ m.le m' ∧ St m' (.room ra1 (List.length r.1) rc1 9 1 :: .room ra2 (List.length r.2.1) rc2 3 1 :: own) w' ∧ RepS cStr m' ra1 rc1 r.1 ∧ RepS (cInt .i64) m' ra2 rc2 r.2.1 := by
  unfold contents_Merge at hr
  have hm := m.le_refl
  refine W_calls Go.Proofs.Try.func29 rfl Go.Proofs.Try.ntmps29 [(0, .agg #[.slice a1 (List.length p0) c1]), (1, .agg #[.slice a2 (List.length p1) c2])] (by kernel_rfl) rfl ?_
  refine W_seq ?_
  refine W_region ?_
  refine WO_one rfl (One_box (d := 2) (e := 24) (x := (.tmp 0)) (.agg #[.slice a1 (List.length p0) c1]) (by kernel_rfl) rfl (by kernel_rfl) st ?_)
  clear st
  intro b1 m1 w1 hle1 st hb1
  have hm := Mem.le_trans hm hle1
  have r1 := r1.mono hle1
  have r2 := r2.mono hle1
  refine WO_one rfl (One_box (d := 3) (e := 24) (x := (.tmp 1)) (.agg #[.slice a2 (List.length p1) c2]) (by kernel_rfl) rfl (by kernel_rfl) st ?_)
  clear st
  intro b2 m2 w2 hle2 st hb2
  have hm := Mem.le_trans hm hle2
  have r1 := r1.mono hle2
  have r2 := r2.mono hle2
  have hb1 := hb1.mono hle2
  refine WO_one rfl (One_alloc (d := 4) (e := 24) (.agg #[.slice none 0 0]) (by kernel_rfl) rfl (by kernel_rfl) st ?_)
  clear st
  intro b3 w3 st
  refine WO_seg 2 [] (by kernel_rfl) (by kernel_rfl) ?_
  refine WO_end rfl ?_
  refine X_then ?_
  refine W_seq ?_
  refine W_seq ?_
  refine W_region ?_
  refine WO_one rfl (One_load_row (d := 12) (t := 24) (x := (.tmp 2)) (.agg #[.slice a1 (List.length p0) c1]) (by kernel_rfl) rfl (show evL _ _ = some (.pointer (some ⟨b1, 0, none⟩)) from (by kernel_rfl)) st hb1 (by kernel_rfl) ?_)
  replace hr := bindS hr
  obtain ⟨y1, hx1, hr⟩ := hr
  refine WO_one rfl (One_fn 13 14 #[.agg #[.slice a1 (List.length p0) c1]] (by kernel_rfl) rfl ?_)
  refine (contents_Check_ok st r1 hx1).mono ?_
  clear st
  rintro _ w4 ⟨m3, rfl, hle3, st⟩
  refine ⟨_, rfl, ?_⟩
  have hm := Mem.le_trans hm hle3
  have hb1 := hb1.mono hle3
  have r1 := r1.mono hle3
  have hb2 := hb2.mono hle3
  have r2 := r2.mono hle3
  refine WO_seg 1 [(7, .int .i64 y1)] (by kernel_rfl) (by kernel_rfl) ?_
  refine WO_end rfl ?_
  refine X_then ?_
  refine W_seq ?_
  refine W_region ?_
  refine WO_seg 2 [(15, .bool (y1 != 0))] (by kernel_rfl) (by kernel_rfl) ?_
  refine WO_end rfl ?_
  refine X_then ?_
  refine W_cond (y1 != 0) (by kernel_rfl) ?_ ?_
  · intro hc
    rw [if_pos hc] at hr
    refine W_seq ?_
    refine W_region ?_
    refine WO_seg 2 [(16, .agg #[.slice none (List.length ([] : List (ByteArray))) 0]), (17, .int .i64 y1)] (by kernel_rfl) (by kernel_rfl) ?_
    refine WO_one rfl (One_store (t := 24) (x := (.tmp 4)) (y := (.tmp 16)) (v := .agg #[.slice none (List.length ([] : List (ByteArray))) 0]) (c' := #[.slice none (List.length ([] : List (ByteArray))) 0]) (by kernel_rfl) (show evL _ _ = some (.pointer (some ⟨b3, 0, none⟩)) from (by kernel_rfl)) (show evL _ _ = some (.agg #[.slice none (List.length ([] : List (ByteArray))) 0]) from (by kernel_rfl)) st (by kernel_rfl) (by kernel_rfl) ?_)
    clear st
    intro w5 st
    refine WO_seg 2 [(5, .slice none (List.length ([] : List (Int))) 0), (6, .int .i64 y1)] (by kernel_rfl) (by kernel_rfl) ?_
    refine WO_end rfl ?_
    refine X_then ?_
    refine W_ret ?_
    refine X_then_ret ?_
    obtain rfl := Option.some.inj hr
    refine X_ret [.cell 4 24, .tmp 5, .tmp 6] [.agg #[.slice none (List.length ([] : List (ByteArray))) 0], .slice none (List.length ([] : List (Int))) 0, .int .i64 y1] rfl (ResAll.cons (ResAt.blk (v := .agg #[.slice none (List.length ([] : List (ByteArray))) 0]) (o := 0) (by kernel_rfl) st.head (by kernel_rfl)) (ResAll.cons (ResAt.tmp (by kernel_rfl)) (ResAll.cons (ResAt.tmp (by kernel_rfl)) ResAll.nil))) ?_
    have st := st.nilroom 9 1
    have st := st.nilroom 3 1
    have st := st.front2
    have st := st.tail
    have st := st.front1
    exact ⟨none, 0, none, 0, m3, rfl, hm, st, (RepS.nil _ _), (RepS.nil _ _)⟩
  · intro hc
    rw [if_neg (not_true hc)] at hr
    refine W_skip ?_
    refine X_then ?_
    refine W_seq ?_
    refine W_seq ?_
    refine W_region ?_
    refine WO_one rfl (One_load_row (d := 18) (t := 24) (x := (.tmp 3)) (.agg #[.slice a2 (List.length p1) c2]) (by kernel_rfl) rfl (show evL _ _ = some (.pointer (some ⟨b2, 0, none⟩)) from (by kernel_rfl)) st hb2 (by kernel_rfl) ?_)
    replace hr := bindS hr
    obtain ⟨y2, hx2, hr⟩ := hr
    refine WO_one rfl (One_fn 19 14 #[.agg #[.slice a2 (List.length p1) c2]] (by kernel_rfl) rfl ?_)
    refine (contents_Check_ok st r2 hx2).mono ?_
    clear st
    rintro _ w6 ⟨m4, rfl, hle4, st⟩
    refine ⟨_, rfl, ?_⟩
    have hm := Mem.le_trans hm hle4
    have hb1 := hb1.mono hle4
    have r1 := r1.mono hle4
    have hb2 := hb2.mono hle4
    have r2 := r2.mono hle4
    refine WO_seg 1 [(8, .int .i64 y2)] (by kernel_rfl) (by kernel_rfl) ?_
    refine WO_end rfl ?_
    refine X_then ?_
    refine W_seq ?_
    refine W_region ?_
    refine WO_seg 2 [(21, .bool (y2 != 0))] (by kernel_rfl) (by kernel_rfl) ?_
    refine WO_end rfl ?_
    refine X_then ?_
    refine W_cond (y2 != 0) (by kernel_rfl) ?_ ?_
    · intro hc
      rw [if_pos hc] at hr
      refine W_seq ?_
      refine W_region ?_
      refine WO_seg 2 [(22, .agg #[.slice none (List.length ([] : List (ByteArray))) 0]), (23, .int .i64 y2)] (by kernel_rfl) (by kernel_rfl) ?_
      refine WO_one rfl (One_store (t := 24) (x := (.tmp 4)) (y := (.tmp 22)) (v := .agg #[.slice none (List.length ([] : List (ByteArray))) 0]) (c' := #[.slice none (List.length ([] : List (ByteArray))) 0]) (by kernel_rfl) (show evL _ _ = some (.pointer (some ⟨b3, 0, none⟩)) from (by kernel_rfl)) (show evL _ _ = some (.agg #[.slice none (List.length ([] : List (ByteArray))) 0]) from (by kernel_rfl)) st (by kernel_rfl) (by kernel_rfl) ?_)
      clear st
      intro w7 st
      refine WO_seg 2 [(5, .slice none (List.length ([] : List (Int))) 0), (6, .int .i64 y2)] (by kernel_rfl) (by kernel_rfl) ?_
      refine WO_end rfl ?_
      refine X_then ?_
      refine W_ret ?_
      refine X_then_ret ?_
      obtain rfl := Option.some.inj hr
      refine X_ret [.cell 4 24, .tmp 5, .tmp 6] [.agg #[.slice none (List.length ([] : List (ByteArray))) 0], .slice none (List.length ([] : List (Int))) 0, .int .i64 y2] rfl (ResAll.cons (ResAt.blk (v := .agg #[.slice none (List.length ([] : List (ByteArray))) 0]) (o := 0) (by kernel_rfl) st.head (by kernel_rfl)) (ResAll.cons (ResAt.tmp (by kernel_rfl)) (ResAll.cons (ResAt.tmp (by kernel_rfl)) ResAll.nil))) ?_
      have st := st.nilroom 9 1
      have st := st.nilroom 3 1
      have st := st.front2
      have st := st.tail
      have st := st.front1
      exact ⟨none, 0, none, 0, m4, rfl, hm, st, (RepS.nil _ _), (RepS.nil _ _)⟩
    · intro hc
      rw [if_neg (not_true hc)] at hr
      refine W_skip ?_
      refine X_then ?_
      refine W_seq ?_
      refine W_region ?_
      refine WO_one rfl (One_alloc (d := 9) (e := 32) (.slice none 0 0) (by kernel_rfl) rfl (by kernel_rfl) st ?_)
      clear st
      intro b4 w8 st
      refine WO_end rfl ?_
      refine X_then ?_
      refine W_seq ?_
      refine W_region ?_
      refine WO_one rfl (One_load_row (d := 25) (t := 24) (x := (.tmp 2)) (.agg #[.slice a1 (List.length p0) c1]) (by kernel_rfl) rfl (show evL _ _ = some (.pointer (some ⟨b1, 0, none⟩)) from (by kernel_rfl)) st hb1 (by kernel_rfl) ?_)
      refine WO_seg 1 [(26, .pointer (some ⟨b2, 0, none⟩))] (by kernel_rfl) (by kernel_rfl) ?_
      refine WO_one rfl (One_load_row (d := 27) (t := 22) (x := (.tmp 26)) (.slice a2 (List.length p1) c2) (by kernel_rfl) rfl (show evL _ _ = some (.pointer (some ⟨b2, 0, none⟩)) from (by kernel_rfl)) st hb2 (by kernel_rfl) ?_)
      refine WO_seg 1 [(28, .func (.func 67) #[] #[.pointer (some ⟨b4, 0, none⟩)])] (by kernel_rfl) (by kernel_rfl) ?_
      replace hr := bindS hr
      obtain ⟨o1, hr, hrKu1⟩ := hr
      refine WO_one rfl (One_fn 29 66 #[.agg #[.slice a1 (List.length p0) c1], .slice a2 (List.length p1) c2, .func (.func 67) #[] #[.pointer (some ⟨b4, 0, none⟩)]] (by kernel_rfl) rfl ?_)
      refine Calls_cut (fun v' w' => ∃ (a3 : Option Addr) (c3 : Nat) (a4 : Option Addr) (c4 : Nat) (m5 : Mem), v' = (.tuple #[.agg #[.slice a3 (List.length o1.1) c3], .bool o1.2.1]) ∧ m.le m5 ∧ St m5 (.blk b4 (.cells #[.slice a4 (List.length o1.2.2) c4] 32 (0, 0)) :: .blk b3 (.cells #[.slice none (List.length ([] : List (ByteArray))) 0] 24 (0, 0)) :: .room a3 (List.length o1.1) c3 9 1 :: .room a4 (List.length o1.2.2) c4 3 1 :: own) w' ∧ RepS cStr m5 a3 c3 o1.1 ∧ MRow m5 b1 0 [.slice a1 (List.length p0) c1] ∧ RepS cStr m5 a1 c1 p0 ∧ MRow m5 b2 0 [.slice a2 (List.length p1) c2] ∧ RepS cStr m5 a2 c2 p1 ∧ RepS (cInt .i64) m5 a4 c4 o1.2.2) ?_ ?_
      · clear hr st
        have hr := hrKu1
        clear hrKu1
        rintro _ w9 ⟨a3, c3, a4, c4, m5, rfl, hm, st, r3, hb1, r1, hb2, r2, r4⟩
        refine ⟨_, rfl, ?_⟩
        refine WO_seg 3 [(30, .agg #[.slice a3 (List.length o1.1) c3]), (31, .bool o1.2.1)] (by kernel_rfl) (by kernel_rfl) ?_
        refine WO_one rfl (One_alloc (d := 10) (e := 24) (.agg #[.slice none 0 0]) (by kernel_rfl) rfl (by kernel_rfl) st ?_)
        clear st
        intro b11 w28 st
        refine WO_one rfl (One_store (t := 24) (x := (.tmp 10)) (y := (.tmp 30)) (v := .agg #[.slice a3 (List.length o1.1) c3]) (c' := #[.slice a3 (List.length o1.1) c3]) (by kernel_rfl) (show evL _ _ = some (.pointer (some ⟨b11, 0, none⟩)) from (by kernel_rfl)) (show evL _ _ = some (.agg #[.slice a3 (List.length o1.1) c3]) from (by kernel_rfl)) st (by kernel_rfl) (by kernel_rfl) ?_)
        clear st
        intro w29 st
        refine WO_seg 1 [(11, .bool o1.2.1)] (by kernel_rfl) (by kernel_rfl) ?_
        refine WO_end rfl ?_
        refine X_then ?_
        refine W_seq ?_
        refine W_seq ?_
        refine W_region ?_
        refine WO_seg 2 [(33, .bool (!o1.2.1))] (by kernel_rfl) (by kernel_rfl) ?_
        refine WO_end rfl ?_
        refine X_then ?_
        refine W_cond (!o1.2.1) (by kernel_rfl) ?_ ?_
        · intro hc
          rw [if_pos hc] at hr
          refine W_seq ?_
          refine W_region ?_
          refine WO_seg 1 [(34, .agg #[.slice none (List.length ([] : List (ByteArray))) 0])] (by kernel_rfl) (by kernel_rfl) ?_
          have st := st.front2
          refine WO_one rfl (One_store (t := 24) (x := (.tmp 4)) (y := (.tmp 34)) (v := .agg #[.slice none (List.length ([] : List (ByteArray))) 0]) (c' := #[.slice none (List.length ([] : List (ByteArray))) 0]) (by kernel_rfl) (show evL _ _ = some (.pointer (some ⟨b3, 0, none⟩)) from (by kernel_rfl)) (show evL _ _ = some (.agg #[.slice none (List.length ([] : List (ByteArray))) 0]) from (by kernel_rfl)) st (by kernel_rfl) (by kernel_rfl) ?_)
          clear st
          intro w30 st
          refine WO_seg 2 [(5, .slice none (List.length ([] : List (Int))) 0), (6, .int .i64 2)] (by kernel_rfl) (by kernel_rfl) ?_
          refine WO_end rfl ?_
          refine X_then ?_
          refine W_ret ?_
          refine X_then_ret ?_
          obtain rfl := Option.some.inj hr
          refine X_ret [.cell 4 24, .tmp 5, .tmp 6] [.agg #[.slice none (List.length ([] : List (ByteArray))) 0], .slice none (List.length ([] : List (Int))) 0, .int .i64 2] rfl (ResAll.cons (ResAt.blk (v := .agg #[.slice none (List.length ([] : List (ByteArray))) 0]) (o := 0) (by kernel_rfl) st.head (by kernel_rfl)) (ResAll.cons (ResAt.tmp (by kernel_rfl)) (ResAll.cons (ResAt.tmp (by kernel_rfl)) ResAll.nil))) ?_
          have st := st.nilroom 9 1
          have st := st.nilroom 3 1
          have st := st.front2
          have st := st.tail
          have st := st.front2
          have st := st.tail
          have st := st.front2
          have st := st.tail
          have st := st.front2
          have st := st.tail
          have st := st.front2
          have st := st.tail
          have st := st.front1
          exact ⟨none, 0, none, 0, m5, rfl, hm, st, (RepS.nil _ _), (RepS.nil _ _)⟩
        · intro hc
          rw [if_neg (not_true hc)] at hr
          refine W_skip ?_
          refine X_then ?_
          refine W_seq ?_
          refine W_draw [(5, fun w' => Inv m5 w' ∧ Piece.holds m5 w' (.blk b11 (.cells #[.slice a3 (List.length o1.1) c3] 24 (0, 0))) ∧ Piece.holds m5 w' (.blk b4 (.cells #[.slice a4 (List.length o1.2.2) c4] 32 (0, 0))) ∧ True)] (by kernel_rfl) st ?_
          clear st
          intro w31 _ st
          have hmS := m5.le_refl
          refine ⟨⟨.inr ⟨Inv.anti st.inv hmS, Piece.holds_anti st.head hmS, Piece.holds_anti st.tail.head hmS, trivial⟩, trivial⟩, ?_⟩
          refine WA_load_own (t := 24) (x := (.tmp 10)) 0 35 (.agg #[.slice a3 (List.length o1.1) c3]) (by kernel_rfl) rfl (by kernel_rfl) (.head _) (QP_then QP_body) (fun _ h => h.2.1) (show evL _ _ = some (.pointer (some ⟨b11, 0, none⟩)) from (by kernel_rfl)) (by kernel_rfl) ?_
          refine WA_load_own (t := 32) (x := (.tmp 9)) 1 36 (.slice a4 (List.length o1.2.2) c4) (by kernel_rfl) rfl (by kernel_rfl) (.head _) (QP_then QP_body) (fun _ h => h.2.2.1) (show evL _ _ = some (.pointer (some ⟨b4, 0, none⟩)) from (by kernel_rfl)) (by kernel_rfl) ?_
          have st := st.front2
          refine WA_one 2 (by kernel_rfl) (One_store (t := 24) (x := (.tmp 4)) (y := (.tmp 35)) (v := .agg #[.slice a3 (List.length o1.1) c3]) (c' := #[.slice a3 (List.length o1.1) c3]) (by kernel_rfl) (show evL _ _ = some (.pointer (some ⟨b3, 0, none⟩)) from (by kernel_rfl)) (show evL _ _ = some (.agg #[.slice a3 (List.length o1.1) c3]) from (by kernel_rfl)) st (by kernel_rfl) (by kernel_rfl) ?_)
          clear st
          intro w32 st
          refine ⟨⟨.inr ⟨Inv.anti st.inv hmS, Piece.holds_anti st.tail.head hmS, Piece.holds_anti st.tail.tail.head hmS, trivial⟩, trivial⟩, ?_⟩
          refine WA_pure 3 5 (.slice a4 (List.length o1.2.2) c4) (by kernel_rfl) rfl (by kernel_rfl) (.head _) (QP_then QP_body) ?_
          refine WA_pure 4 6 (.int .i64 0) (by kernel_rfl) rfl (by kernel_rfl) (.head _) (QP_then QP_body) ?_
          refine WA_done (by kernel_rfl) ?_
          refine X_then ?_
          refine W_ret ?_
          obtain rfl := Option.some.inj hr
          refine X_ret [.cell 4 24, .tmp 5, .tmp 6] [.agg #[.slice a3 (List.length o1.1) c3], .slice a4 (List.length o1.2.2) c4, .int .i64 0] rfl (ResAll.cons (ResAt.blk (v := .agg #[.slice a3 (List.length o1.1) c3]) (o := 0) (by kernel_rfl) st.head (by kernel_rfl)) (ResAll.cons (ResAt.tmp (by kernel_rfl)) (ResAll.cons (ResAt.tmp (by kernel_rfl)) ResAll.nil))) ?_
          have st := st.tail
          have st := st.tail
          have st := st.tail
          have st := st.front1
          have st := st.front1
          exact ⟨a3, c3, a4, c4, m5, rfl, hm, st, r3, r4⟩
      · clear hrKu1
        refine W_calls Go.Proofs.Try.func66 rfl Go.Proofs.Try.ntmps66 [(0, .agg #[.slice a1 (List.length p0) c1]), (1, .slice a2 (List.length p1) c2), (2, .func (.func 67) #[] #[.pointer (some ⟨b4, 0, none⟩)])] (by kernel_rfl) rfl ?_
        refine W_seq ?_
        refine W_region ?_
        refine WO_one rfl (One_box (d := 3) (e := 24) (x := (.tmp 0)) (.agg #[.slice a1 (List.length p0) c1]) (by kernel_rfl) rfl (by kernel_rfl) st ?_)
        clear st
        intro b5 m6 w10 hle5 st hb3
        have hm := Mem.le_trans hm hle5
        have r1 := r1.mono hle5
        have r2 := r2.mono hle5
        have hb1 := hb1.mono hle5
        have hb2 := hb2.mono hle5
        refine WO_one rfl (One_alloc (d := 6) (e := 24) (.agg #[.slice none 0 0]) (by kernel_rfl) rfl (by kernel_rfl) st ?_)
        clear st
        intro b6 w11 st
        refine WO_seg 1 [] (by kernel_rfl) (by kernel_rfl) ?_
        refine WO_end rfl ?_
        refine X_then ?_
        refine W_seq ?_
        refine W_region ?_
        refine WO_one rfl (One_load_row (d := 16) (t := 24) (x := (.tmp 3)) (.agg #[.slice a1 (List.length p0) c1]) (by kernel_rfl) rfl (show evL _ _ = some (.pointer (some ⟨b5, 0, none⟩)) from (by kernel_rfl)) st hb3 (by kernel_rfl) ?_)
        replace hr := bindS hr
        obtain ⟨y3, hx3, hr⟩ := hr
        refine WO_one rfl (One_fn 17 62 #[.agg #[.slice a1 (List.length p0) c1]] (by kernel_rfl) rfl ?_)
        refine (contents_numbers_ok st r1 hx3).mono ?_
        clear st
        rintro _ w12 ⟨q1, es1, ck1, m7, rfl, hle6, st, r5⟩
        refine ⟨_, rfl, ?_⟩
        have hm := Mem.le_trans hm hle6
        have r2 := r2.mono hle6
        have hb3 := hb3.mono hle6
        have r1 := r1.mono hle6
        have hb1 := hb1.mono hle6
        have hb2 := hb2.mono hle6
        refine WO_seg 5 [(8, .map q1)] (by kernel_rfl) (by kernel_rfl) ?_
        refine WO_end rfl ?_
        refine X_then ?_
        refine W_seq ?_
        refine W_region ?_
        refine WO_seg 1 [(20, .pointer (some ⟨b5, 0, none⟩))] (by kernel_rfl) (by kernel_rfl) ?_
        refine WO_one rfl (One_load_row (d := 21) (t := 22) (x := (.tmp 20)) (.slice a1 (List.length p0) c1) (by kernel_rfl) rfl (show evL _ _ = some (.pointer (some ⟨b5, 0, none⟩)) from (by kernel_rfl)) st hb3 (by kernel_rfl) ?_)
        replace hr := bindS hr
        obtain ⟨y4, hx4, hr⟩ := hr
        refine WO_one rfl (One_fn 22 71 #[.slice a1 (List.length p0) c1] (by kernel_rfl) rfl ?_)
        refine (slices_Clone_string_string_ok st r1 hx4).mono ?_
        clear st
        rintro _ w13 ⟨a5, c5, m8, rfl, hle7, st, r6⟩
        refine ⟨_, rfl, ?_⟩
        have hm := Mem.le_trans hm hle7
        have r2 := r2.mono hle7
        have hb3 := hb3.mono hle7
        have r1 := r1.mono hle7
        have hb1 := hb1.mono hle7
        have hb2 := hb2.mono hle7
        have r5 := r5.mono hle7
        refine WO_seg 1 [(23, .agg #[.slice a5 (List.length y4) c5])] (by kernel_rfl) (by kernel_rfl) ?_
        refine WO_one rfl (One_alloc (d := 10) (e := 24) (.agg #[.slice none 0 0]) (by kernel_rfl) rfl (by kernel_rfl) st ?_)
        clear st
        intro b7 w14 st
        refine WO_one rfl (One_store (t := 24) (x := (.tmp 10)) (y := (.tmp 23)) (v := .agg #[.slice a5 (List.length y4) c5]) (c' := #[.slice a5 (List.length y4) c5]) (by kernel_rfl) (show evL _ _ = some (.pointer (some ⟨b7, 0, none⟩)) from (by kernel_rfl)) (show evL _ _ = some (.agg #[.slice a5 (List.length y4) c5]) from (by kernel_rfl)) st (by kernel_rfl) (by kernel_rfl) ?_)
        clear st
        intro w15 st
        refine WO_end rfl ?_
        refine X_then ?_
        refine W_seq ?_
        refine W_seq ?_
        refine W_region ?_
        refine WO_seg 3 [(24, .slice a2 (List.length p1) c2), (25, .int .i64 (List.length p1 : Int)), (26, .int .i64 0)] (by kernel_rfl) (by kernel_rfl) ?_
        refine WO_end rfl ?_
        refine X_then ?_
        refine W_block ?_
        replace hr := bindS hr
        obtain ⟨out1, hr, hrKu2⟩ := hr
        refine W_cut (.exit 0) (fun L' w' => ∃ (o2 : List (ByteArray) × List (Int) × (Option (List (ByteArray × Int)))) (a6 : Option Addr) (c6 : Nat) (a7 : Option Addr) (c7 : Nat) (es2 : Array MapEntry) (ck2 : Nat) (m9 : Mem), (.inl o2) = out1 ∧ L' = [(6, .pointer (some ⟨b6, 0, none⟩)), (10, .pointer (some ⟨b7, 0, none⟩))] ∧ m.le m9 ∧ St m9 (.blk b7 (.cells #[.slice a6 (List.length o2.1) c6] 24 (0, 0)) :: .blk b6 (.cells #[.slice none (List.length ([] : List (ByteArray))) 0] 24 (0, 0)) :: .blk b4 (.cells #[.slice a7 (List.length o2.2.1) c7] 32 (0, 0)) :: .blk b3 (.cells #[.slice none (List.length ([] : List (ByteArray))) 0] 24 (0, 0)) :: mpiece q1 es2 ck2 :: .room a6 (List.length o2.1) c6 9 1 :: .room a7 (List.length o2.2.1) c7 3 1 :: own) w' ∧ MRow m9 b1 0 [.slice a1 (List.length p0) c1] ∧ RepS cStr m9 a1 c1 p0 ∧ MRow m9 b2 0 [.slice a2 (List.length p1) c2] ∧ RepS cStr m9 a2 c2 p1 ∧ RepS cStr m9 a6 c6 o2.1 ∧ RepS (cInt .i64) m9 a7 c7 o2.2.1 ∧ MapQ (fun s : ByteArray => Value.string s) (cInt .i64) false m9 q1 es2 o2.2.2) ?_ ?_
        · clear hr st
          rintro _ w16 ⟨o2, a6, c6, a7, c7, es2, ck2, m9, rfl, rfl, hm, st, hb1, r1, hb2, r2, r7, r8, r9⟩
          have hr := hrKu2
          clear hrKu2
          dsimp only at hr
          refine X_block_eq ?_
          refine X_then ?_
          refine W_seq ?_
          refine W_region ?_
          refine WO_one rfl (One_load_own (d := 59) (t := 24) (x := (.tmp 10)) (.agg #[.slice a6 (List.length o2.1) c6]) (by kernel_rfl) rfl (show evL _ _ = some (.pointer (some ⟨b7, 0, none⟩)) from (by kernel_rfl)) st.head (by kernel_rfl) ?_)
          have st := st.front1
          refine WO_one rfl (One_store (t := 24) (x := (.tmp 6)) (y := (.tmp 59)) (v := .agg #[.slice a6 (List.length o2.1) c6]) (c' := #[.slice a6 (List.length o2.1) c6]) (by kernel_rfl) (show evL _ _ = some (.pointer (some ⟨b6, 0, none⟩)) from (by kernel_rfl)) (show evL _ _ = some (.agg #[.slice a6 (List.length o2.1) c6]) from (by kernel_rfl)) st (by kernel_rfl) (by kernel_rfl) ?_)
          clear st
          intro w27 st
          refine WO_seg 1 [(7, .bool true)] (by kernel_rfl) (by kernel_rfl) ?_
          refine WO_end rfl ?_
          refine X_then ?_
          refine W_ret ?_
          obtain rfl := Option.some.inj hr
          refine X_ret [.cell 6 24, .tmp 7] [.agg #[.slice a6 (List.length o2.1) c6], .bool true] rfl (ResAll.cons (ResAt.blk (v := .agg #[.slice a6 (List.length o2.1) c6]) (o := 0) (by kernel_rfl) st.head (by kernel_rfl)) (ResAll.cons (ResAt.tmp (by kernel_rfl)) ResAll.nil)) ?_
          have st := st.tail
          have st := st.tail
          have st := st.front2
          have st := st.tail
          have st := st.front3
          have st := st.front3
          have st := st.front3
          have st := st.front3
          exact ⟨_, rfl, ⟨a6, c6, a7, c7, m9, rfl, hm, st, r7, hb1, r1, hb2, r2, r8⟩⟩
        intro K0_u2
        have st := st.nilroom 3 1
        have st := st.front2
        have st := st.front3
        have st := st.front6
        have st := st.front6
        have st := st.front6
        have st := st.front6
        refine W_env _ (by kernel_rfl) (W_loop (fun k1 L' w' => ∃ (s1 : Int × List (ByteArray) × List (Int) × (Option (List (ByteArray × Int)))) (a8 : Option Addr) (c8 : Nat) (a9 : Option Addr) (c9 : Nat) (es3 : Array MapEntry) (ck3 : Nat) (m10 : Mem), loopM (contents_Merge_L1 N p1) k1 s1 = some out1 ∧ L' = [(2, .func (.func 67) #[] #[.pointer (some ⟨b4, 0, none⟩)]), (6, .pointer (some ⟨b6, 0, none⟩)), (8, .map q1), (10, .pointer (some ⟨b7, 0, none⟩)), (24, .slice a2 (List.length p1) c2), (25, .int .i64 (List.length p1 : Int)), (26, .int .i64 s1.1)] ∧ m.le m10 ∧ St m10 (.blk b7 (.cells #[.slice a8 (List.length s1.2.1) c8] 24 (0, 0)) :: .blk b6 (.cells #[.slice none (List.length ([] : List (ByteArray))) 0] 24 (0, 0)) :: .blk b4 (.cells #[.slice a9 (List.length s1.2.2.1) c9] 32 (0, 0)) :: .blk b3 (.cells #[.slice none (List.length ([] : List (ByteArray))) 0] 24 (0, 0)) :: mpiece q1 es3 ck3 :: .room a8 (List.length s1.2.1) c8 9 1 :: .room a9 (List.length s1.2.2.1) c9 3 1 :: own) w' ∧ RepS cStr m10 a2 c2 p1 ∧ MRow m10 b1 0 [.slice a1 (List.length p0) c1] ∧ RepS cStr m10 a1 c1 p0 ∧ MRow m10 b2 0 [.slice a2 (List.length p1) c2] ∧ RepS cStr m10 a8 c8 s1.2.1 ∧ RepS (cInt .i64) m10 a9 c9 s1.2.2.1 ∧ MapQ (fun s : ByteArray => Value.string s) (cInt .i64) false m10 q1 es3 s1.2.2.2) N ⟨(0, y4, ([] : List (Int)), y3.1), a5, c5, none, 0, es1, ck1, m8, hr, rfl, hm, st, r2, hb1, r1, hb2, r6, (RepS.nil _ _), r5⟩ ?_)
        clear st hr
        rintro k1 _ w17 ⟨s1, a8, c8, a9, c9, es3, ck3, m10, hL, rfl, hm, st, r2, hb1, r1, hb2, r10, r11, r12⟩
        rcases k1 with _ | k1
        · exact loopM_zero hL
        · obtain ⟨qu2, hr, hSu2, hBu2⟩ := loopM_succ hL
          clear hL
          unfold contents_Merge_L1 at hr
          refine W_seq ?_
          refine W_region ?_
          refine WO_seg 1 [(27, .bool (decide (s1.1 < (List.length p1 : Int))))] (by kernel_rfl) (by kernel_rfl) ?_
          refine WO_end rfl ?_
          refine X_then ?_
          refine W_seq ?_
          refine W_cond (decide (s1.1 < (List.length p1 : Int))) (by kernel_rfl) ?_ ?_
          · intro hc
            rw [if_pos hc] at hr
            refine W_skip ?_
            refine X_then ?_
            refine W_seq ?_
            refine W_block ?_
            refine W_seq ?_
            refine W_region ?_
            replace hr := bindS hr
            obtain ⟨x1, hx5, hr⟩ := hr
            refine WO_one rfl (One_index (d := 28) (t := 22) (e := 9) (x := (.tmp 24)) (y := (.tmp 26)) cStr (by kernel_rfl) rfl (show evL _ _ = some (.slice a2 (List.length p1) c2) from (by kernel_rfl)) (show evL _ _ = some (.int .i64 s1.1) from (by kernel_rfl)) (by kernel_rfl) r2 hx5 ?_)
            rintro b8 f1 cs1 rfl hq1
            refine WO_one rfl (One_load_row (d := 29) (t := 9) (x := (.tmp 28)) (.string x1) (by kernel_rfl) rfl (show evL _ _ = some (.pointer (some ⟨b8, f1, none⟩)) from (by kernel_rfl)) st hq1 (by kernel_rfl) ?_)
            refine WO_seg 1 [(12, .string x1)] (by kernel_rfl) (by kernel_rfl) ?_
            refine WO_end rfl ?_
            refine X_then ?_
            refine W_seq ?_
            refine W_region ?_
            refine WO_seg 2 [(31, .map q1), (32, .string x1)] (by kernel_rfl) (by kernel_rfl) ?_
            refine WO_one rfl (One_lookup (ek := (fun s : ByteArray => Value.string s)) (c := (cInt .i64)) (agg := false) (k := x1) (zx := 0) (zcs := [.int .i64 0]) (z := (.int .i64 0)) (kt := 9) (et := 3) (d := 33) (t := 92) (x := (.tmp 31)) (y := (.tmp 32)) (ok := true) (by kernel_rfl) rfl (show evL _ _ = some (.map q1) from (by kernel_rfl)) (show evL _ _ = some (.string x1) from (by kernel_rfl)) (by kernel_rfl) (keyStr (by kernel_rfl)) st.tail.tail.tail.tail.head r12 rfl rfl ?_)
            rintro cs2 rfl
            refine WO_seg 5 [(13, .int .i64 ((mgetQ s1.2.2.2 x1).getD 0)), (14, .bool ((mgetQ s1.2.2.2 x1).isSome))] (by kernel_rfl) (by kernel_rfl) ?_
            refine WO_end rfl ?_
            refine X_then ?_
            refine W_seq ?_
            refine W_seq ?_
            refine W_region ?_
            refine WO_seg 2 [(37, .bool (!((mgetQ s1.2.2.2 x1).isSome)))] (by kernel_rfl) (by kernel_rfl) ?_
            refine WO_end rfl ?_
            refine X_then ?_
            replace hr := bindS hr
            obtain ⟨qu3, hr, hrKu3⟩ := hr
            refine W_cut .normal (fun L' w' => ∃ (o3 : Int × List (ByteArray) × (Option (List (ByteArray × Int)))) (a10 : Option Addr) (c10 : Nat) (es4 : Array MapEntry) (ck4 : Nat) (m11 : Mem), (.inl o3 : (Int × List (ByteArray) × (Option (List (ByteArray × Int)))) ⊕ ((Int × List (ByteArray) × List (Int) × (Option (List (ByteArray × Int)))) ⊕ ((List (ByteArray) × List (Int) × (Option (List (ByteArray × Int)))) ⊕ (List (ByteArray) × Bool × List (Int))))) = qu3 ∧ L' = [(2, .func (.func 67) #[] #[.pointer (some ⟨b4, 0, none⟩)]), (6, .pointer (some ⟨b6, 0, none⟩)), (8, .map q1), (10, .pointer (some ⟨b7, 0, none⟩)), (13, .int .i64 o3.1), (24, .slice a2 (List.length p1) c2), (25, .int .i64 (List.length p1 : Int)), (26, .int .i64 s1.1)] ∧ m.le m11 ∧ St m11 (.blk b7 (.cells #[.slice a10 (List.length o3.2.1) c10] 24 (0, 0)) :: .blk b6 (.cells #[.slice none (List.length ([] : List (ByteArray))) 0] 24 (0, 0)) :: .blk b4 (.cells #[.slice a9 (List.length s1.2.2.1) c9] 32 (0, 0)) :: .blk b3 (.cells #[.slice none (List.length ([] : List (ByteArray))) 0] 24 (0, 0)) :: mpiece q1 es4 ck4 :: .room a9 (List.length s1.2.2.1) c9 3 1 :: .room a10 (List.length o3.2.1) c10 9 1 :: own) w' ∧ RepS cStr m11 a2 c2 p1 ∧ MRow m11 b1 0 [.slice a1 (List.length p0) c1] ∧ RepS cStr m11 a1 c1 p0 ∧ MRow m11 b2 0 [.slice a2 (List.length p1) c2] ∧ RepS cStr m11 a10 c10 o3.2.1 ∧ RepS (cInt .i64) m11 a9 c9 s1.2.2.1 ∧ MapQ (fun s : ByteArray => Value.string s) (cInt .i64) false m11 q1 es4 o3.2.2) ?_ ?_
            · clear hr st
              rintro _ w18 ⟨o3, a10, c10, es4, ck4, m11, rfl, rfl, hm, st, r2, hb1, r1, hb2, r13, r11, r14⟩
              have hr := hrKu3
              clear hrKu3
              dsimp only at hr
              refine X_then ?_
              refine W_region ?_
              refine WO_seg 2 [(55, .func (.func 67) #[] #[.pointer (some ⟨b4, 0, none⟩)]), (56, .int .i64 o3.1)] (by kernel_rfl) (by kernel_rfl) ?_
              refine WO_one rfl (One_fn 57 67 #[.int .i64 o3.1, .pointer (some ⟨b4, 0, none⟩)] (by kernel_rfl) rfl ?_)
              refine W_calls Go.Proofs.Try.func67 rfl Go.Proofs.Try.ntmps67 [(0, .int .i64 o3.1), (1, .pointer (some ⟨b4, 0, none⟩))] (by kernel_rfl) rfl ?_
              refine W_region ?_
              refine WO_one rfl (One_load_own (d := 3) (t := 32) (x := (.tmp 1)) (.slice a9 (List.length s1.2.2.1) c9) (by kernel_rfl) rfl (show evL _ _ = some (.pointer (some ⟨b4, 0, none⟩)) from (by kernel_rfl)) st.tail.tail.head (by kernel_rfl) ?_)
              refine WO_seg 1 [(4, .int .i64 o3.1)] (by kernel_rfl) (by kernel_rfl) ?_
              refine WO_one rfl (One_buildSlice (d := 5) (t := 32) (e := 3) (len := 1) (parts := #[(0, (.tmp 4))]) (cInt .i64) (xs := [o3.1]) [.int .i64 o3.1] (by kernel_rfl) rfl (fun _ => buildCells_run (by kernel_rfl) _) rfl rfl st ⟨[.int .i64 o3.1], _, rfl, rfl, rfl⟩ ?_)
              clear st
              intro b10 m14 w24 hle10 st r18
              have hm := Mem.le_trans hm hle10
              have r11 := r11.mono hle10
              have hb1 := hb1.mono hle10
              have r1 := r1.mono hle10
              have hb2 := hb2.mono hle10
              have r2 := r2.mono hle10
              have r13 := r13.mono hle10
              have r14 := r14.mono hle10
              have st := st.front6
              replace hr := bindS hr
              obtain ⟨l2, hx8, hr⟩ := hr
              refine WO_one rfl (One_append (d := 6) (t := 32) (u := 32) (e := 3) (by_ := 8) (x := (.tmp 3)) (y := (.tmp 5)) (cInt .i64) (by kernel_rfl) rfl (show evL _ _ = some (.slice a9 (List.length s1.2.2.1) c9) from (by kernel_rfl)) (show evL _ _ = some (.slice (some ⟨b10, 0, none⟩) (List.length ([o3.1])) 1) from (by kernel_rfl)) st (by kernel_rfl) (.inl (by kernel_rfl)) r11 r18.src hx8 ?_)
              clear st
              intro a12 c12 m15 w25 hle11 st r19
              have hm := Mem.le_trans hm hle11
              have r11 := r11.mono hle11
              have r18 := r18.mono hle11
              have hb1 := hb1.mono hle11
              have r1 := r1.mono hle11
              have hb2 := hb2.mono hle11
              have r2 := r2.mono hle11
              have r13 := r13.mono hle11
              have r14 := r14.mono hle11
              have st := st.front4
              refine WO_one rfl (One_store (t := 32) (x := (.tmp 1)) (y := (.tmp 6)) (v := .slice a12 (List.length l2) c12) (c' := #[.slice a12 (List.length l2) c12]) (by kernel_rfl) (show evL _ _ = some (.pointer (some ⟨b4, 0, none⟩)) from (by kernel_rfl)) (show evL _ _ = some (.slice a12 (List.length l2) c12) from (by kernel_rfl)) st (by kernel_rfl) (by kernel_rfl) ?_)
              clear st
              intro w26 st
              refine WO_end rfl ?_
              have st := st.front2
              have st := st.tail
              refine X_fall [] [] rfl ResAll.nil ?_
              refine ⟨_, rfl, ?_⟩
              refine WO_end rfl ?_
              refine X_block ?_
              refine X_then ?_
              refine W_region ?_
              refine WO_seg 2 [(26, .int .i64 (IntKind.wrap .i64 (s1.1 + 1)))] (by kernel_rfl) (by kernel_rfl) ?_
              refine WO_end rfl ?_
              obtain rfl := Option.some.inj hr
              have hL := hSu2 _ rfl
              have st := st.front1
              have st := st.front6
              have st := st.front6
              have st := st.front6
              have st := st.front4
              have st := st.front6
              have st := st.front6
              exact X_env _ (by kernel_rfl) (X_round k1 (Nat.lt_succ_self _) ⟨(IntKind.wrap .i64 (s1.1 + 1), o3.2.1, l2, o3.2.2), a10, c10, a12, c12, es4, ck4, m15, hL, rfl, hm, st, r2, hb1, r1, hb2, r13, r19, r14⟩)
            · intro Ku3
              refine W_cond (!((mgetQ s1.2.2.2 x1).isSome)) (by kernel_rfl) ?_ ?_
              · intro hc
                rw [if_pos hc] at hr
                refine W_seq ?_
                refine W_seq ?_
                refine W_region ?_
                refine WO_seg 1 [(38, .pointer (some ⟨b7, 0, none⟩))] (by kernel_rfl) (by kernel_rfl) ?_
                refine WO_one rfl (One_load_own (d := 39) (t := 22) (x := (.tmp 38)) (.slice a8 (List.length s1.2.1) c8) (by kernel_rfl) rfl (show evL _ _ = some (.pointer (some ⟨b7, 0, none⟩)) from (by kernel_rfl)) st.head (by kernel_rfl) ?_)
                refine WO_seg 2 [(41, .bool ((List.length s1.2.1 : Int) == 4096))] (by kernel_rfl) (by kernel_rfl) ?_
                refine WO_end rfl ?_
                refine X_then ?_
                refine W_cond ((List.length s1.2.1 : Int) == 4096) (by kernel_rfl) ?_ ?_
                · intro hc
                  rw [if_pos hc] at hr
                  refine W_seq ?_
                  refine W_region ?_
                  refine WO_seg 1 [(42, .agg #[.slice none (List.length ([] : List (ByteArray))) 0])] (by kernel_rfl) (by kernel_rfl) ?_
                  have st := st.front1
                  refine WO_one rfl (One_store (t := 24) (x := (.tmp 6)) (y := (.tmp 42)) (v := .agg #[.slice none (List.length ([] : List (ByteArray))) 0]) (c' := #[.slice none (List.length ([] : List (ByteArray))) 0]) (by kernel_rfl) (show evL _ _ = some (.pointer (some ⟨b6, 0, none⟩)) from (by kernel_rfl)) (show evL _ _ = some (.agg #[.slice none (List.length ([] : List (ByteArray))) 0]) from (by kernel_rfl)) st (by kernel_rfl) (by kernel_rfl) ?_)
                  clear st
                  intro w19 st
                  refine WO_seg 1 [(7, .bool false)] (by kernel_rfl) (by kernel_rfl) ?_
                  refine WO_end rfl ?_
                  refine X_then ?_
                  refine W_ret ?_
                  refine X_then_ret ?_
                  replace hr := Option.map_eq_some_iff.1 hr
                  obtain ⟨zu3, hr, hzu3⟩ := hr
                  subst hzu3
                  have hrKu3 := Option.some.inj hrKu3
                  subst hrKu3
                  refine X_then_ret ?_
                  refine X_block_ret ?_
                  refine X_then_ret ?_
                  obtain rfl := Option.some.inj hr
                  have ho := hBu2 _ rfl
                  subst ho
                  have hr := hrKu2
                  dsimp only at hr
                  refine X_then_ret ?_
                  refine X_block_ret ?_
                  refine X_then_ret ?_
                  obtain rfl := Option.some.inj hr
                  refine X_ret [.cell 6 24, .tmp 7] [.agg #[.slice none (List.length ([] : List (ByteArray))) 0], .bool false] rfl (ResAll.cons (ResAt.blk (v := .agg #[.slice none (List.length ([] : List (ByteArray))) 0]) (o := 0) (by kernel_rfl) st.head (by kernel_rfl)) (ResAll.cons (ResAt.tmp (by kernel_rfl)) ResAll.nil)) ?_
                  have st := st.nilroom 9 1
                  have st := st.front1
                  have st := st.tail
                  have st := st.front1
                  have st := st.tail
                  have st := st.front3
                  have st := st.tail
                  have st := st.front3
                  have st := st.tail
                  have st := st.front3
                  have st := st.front1
                  have st := st.front3
                  have st := st.front3
                  exact ⟨_, rfl, ⟨none, 0, a9, c9, m10, rfl, hm, st, (RepS.nil _ _), hb1, r1, hb2, r2, r11⟩⟩
                · intro hc
                  rw [if_neg (not_true hc)] at hr
                  refine W_skip ?_
                  refine X_then ?_
                  refine W_seq ?_
                  refine W_region ?_
                  refine WO_seg 1 [(43, .pointer (some ⟨b7, 0, none⟩))] (by kernel_rfl) (by kernel_rfl) ?_
                  refine WO_one rfl (One_load_own (d := 44) (t := 22) (x := (.tmp 43)) (.slice a8 (List.length s1.2.1) c8) (by kernel_rfl) rfl (show evL _ _ = some (.pointer (some ⟨b7, 0, none⟩)) from (by kernel_rfl)) st.head (by kernel_rfl) ?_)
                  refine WO_seg 2 [(13, .int .i64 (List.length s1.2.1 : Int))] (by kernel_rfl) (by kernel_rfl) ?_
                  refine WO_end rfl ?_
                  refine X_then ?_
                  refine W_seq ?_
                  refine W_region ?_
                  refine WO_seg 3 [(46, .map q1), (47, .string x1), (48, .int .i64 (List.length s1.2.1 : Int))] (by kernel_rfl) (by kernel_rfl) ?_
                  have st := st.front4
                  replace hr := bindS hr
                  obtain ⟨mp1, hx6, hr⟩ := hr
                  refine WO_one rfl (One_mapUpdate (ek := (fun s : ByteArray => Value.string s)) (c := (cInt .i64)) (agg := false) (k := x1) (yv := (List.length s1.2.1 : Int)) (cs := [.int .i64 (List.length s1.2.1 : Int)]) (z := (.int .i64 0)) (v := (.int .i64 (List.length s1.2.1 : Int))) (kt := 9) (et := 3) (t := 92) (x := (.tmp 46)) (y := (.tmp 47)) (u := (.tmp 48)) (by kernel_rfl) (show evL _ _ = some (.map q1) from (by kernel_rfl)) (show evL _ _ = some (.string x1) from (by kernel_rfl)) (show evL _ _ = some (.int .i64 (List.length s1.2.1 : Int)) from (by kernel_rfl)) (by kernel_rfl) (keyStr (by kernel_rfl)) st r12 rfl rfl hx6 ?_)
                  clear st
                  intro es5 ck5 w20 st r15
                  refine WO_end rfl ?_
                  refine X_then ?_
                  refine W_region ?_
                  refine WO_seg 1 [(49, .pointer (some ⟨b7, 0, none⟩))] (by kernel_rfl) (by kernel_rfl) ?_
                  refine WO_one rfl (One_load_own (d := 50) (t := 22) (x := (.tmp 49)) (.slice a8 (List.length s1.2.1) c8) (by kernel_rfl) rfl (show evL _ _ = some (.pointer (some ⟨b7, 0, none⟩)) from (by kernel_rfl)) st.tail.head (by kernel_rfl) ?_)
                  refine WO_seg 1 [(51, .string x1)] (by kernel_rfl) (by kernel_rfl) ?_
                  refine WO_one rfl (One_buildSlice (d := 52) (t := 22) (e := 9) (len := 1) (parts := #[(0, (.tmp 51))]) cStr (xs := [x1]) [.string x1] (by kernel_rfl) rfl (fun _ => buildCells_run (by kernel_rfl) _) rfl rfl st ⟨[.string x1], _, rfl, rfl, rfl⟩ ?_)
                  clear st
                  intro b9 m12 w21 hle8 st r16
                  have hm := Mem.le_trans hm hle8
                  have r2 := r2.mono hle8
                  have r10 := r10.mono hle8
                  have hb1 := hb1.mono hle8
                  have r1 := r1.mono hle8
                  have hb2 := hb2.mono hle8
                  have r15 := r15.mono hle8
                  have r11 := r11.mono hle8
                  have st := st.front6
                  replace hr := bindS hr
                  obtain ⟨l1, hx7, hr⟩ := hr
                  refine WO_one rfl (One_append (d := 53) (t := 22) (u := 22) (e := 9) (by_ := 16) (x := (.tmp 50)) (y := (.tmp 52)) cStr (by kernel_rfl) rfl (show evL _ _ = some (.slice a8 (List.length s1.2.1) c8) from (by kernel_rfl)) (show evL _ _ = some (.slice (some ⟨b9, 0, none⟩) (List.length ([x1])) 1) from (by kernel_rfl)) st (by kernel_rfl) (.inl (by kernel_rfl)) r10 r16.src hx7 ?_)
                  clear st
                  intro a11 c11 m13 w22 hle9 st r17
                  have hm := Mem.le_trans hm hle9
                  have r2 := r2.mono hle9
                  have r10 := r10.mono hle9
                  have r16 := r16.mono hle9
                  have hb1 := hb1.mono hle9
                  have r1 := r1.mono hle9
                  have hb2 := hb2.mono hle9
                  have r15 := r15.mono hle9
                  have r11 := r11.mono hle9
                  refine WO_seg 1 [(54, .pointer (some ⟨b7, 0, none⟩))] (by kernel_rfl) (by kernel_rfl) ?_
                  have st := st.front3
                  refine WO_one rfl (One_store (t := 22) (x := (.tmp 54)) (y := (.tmp 53)) (v := .slice a11 (List.length l1) c11) (c' := #[.slice a11 (List.length l1) c11]) (by kernel_rfl) (show evL _ _ = some (.pointer (some ⟨b7, 0, none⟩)) from (by kernel_rfl)) (show evL _ _ = some (.slice a11 (List.length l1) c11) from (by kernel_rfl)) st (by kernel_rfl) (by kernel_rfl) ?_)
                  clear st
                  intro w23 st
                  refine WO_end rfl ?_
                  have st := st.front2
                  have st := st.tail
                  have hqu3 := Option.some.inj hr
                  have st := st.front1
                  have st := st.front6
                  have st := st.front3
                  have st := st.front6
                  have st := st.front6
                  have st := st.front6
                  have st := st.front6
                  exact X_env _ (by kernel_rfl) (Ku3 _ _ ⟨((List.length s1.2.1 : Int), l1, mp1), a11, c11, es5, ck5, m13, hqu3, rfl, hm, st, r2, hb1, r1, hb2, r17, r11, r15⟩)
              · intro hc
                rw [if_neg (not_true hc)] at hr
                refine W_skip ?_
                have hqu3 := Option.some.inj hr
                have st := st.front5
                have st := st.front6
                have st := st.front6
                have st := st.front6
                have st := st.front6
                have st := st.front6
                have st := st.front6
                exact X_env _ (by kernel_rfl) (Ku3 _ _ ⟨(((mgetQ s1.2.2.2 x1).getD 0), s1.2.1, s1.2.2.2), a8, c8, es3, ck3, m10, hqu3, rfl, hm, st, r2, hb1, r1, hb2, r10, r11, r12⟩)
          · intro hc
            rw [if_neg (not_true hc)] at hr
            refine W_exit ?_
            refine X_then_exit ?_
            obtain rfl := Option.some.inj hr
            have ho := hBu2 _ rfl
            have st := st.front6
            have st := st.front6
            have st := st.front6
            have st := st.front6
            have st := st.front6
            have st := st.front6
            have st := st.front6
            refine X_then_exit ?_
            exact X_env _ (by kernel_rfl) (K0_u2 _ _ ⟨(s1.2.1, s1.2.2.1, s1.2.2.2), a8, c8, a9, c9, es3, ck3, m10, ho, rfl, hm, st, hb1, r1, hb2, r2, r10, r11, r12⟩)

def contents_Put (N : Nat) (p0 : List ByteArray) (p1 : ByteArray) : Option (List ByteArray × Int × Int) :=
  (contents_Merge N p0 ([p1])).bind fun y1 => if (y1.2.2 != 0) = true then (some (([] : List (ByteArray)), 0, y1.2.2)) else ((idx y1.2.1 0).bind fun x1 => some (y1.1, x1, 0))

set_option maxHeartbeats 4000000 in
set_option maxRecDepth 100000 in
theorem contents_Put_ok {N : Nat} {m : Mem} {own : List Piece} {w : World} {p0 : List ByteArray} {p1 : ByteArray} {a1 : Option Addr} {c1 : Nat} {r : List ByteArray × Int × Int} (st : St m (own) w) (r1 : RepS cStr m a1 c1 p0) (hr : contents_Put N p0 p1 = some r) : Calls Go.Proofs.Try.prog 13 #[.agg #[.slice a1 (List.length p0) c1], .string p1] w fun e w' => ∃ (ra1 : Option Addr) (rc1 : Nat) (m' : Mem), e = .returned (.tuple #[.agg #[.slice ra1 (List.length r.1) rc1], .int .i64 r.2.1, .int .i64 r.2.2]) ∧ m.le m' ∧ St m' (.room ra1 (List.length r.1) rc1 9 1 :: own) w' ∧ RepS cStr m' ra1 rc1 r.1 := by
  unfold contents_Put at hr
  have hm := m.le_refl
  refine W_calls Go.Proofs.Try.func13 rfl Go.Proofs.Try.ntmps13 [(0, .agg #[.slice a1 (List.length p0) c1]), (1, .string p1)] (by kernel_rfl) rfl ?_
  refine W_seq ?_
  refine W_region ?_
  refine WO_one rfl (One_box (d := 2) (e := 24) (x := (.tmp 0)) (.agg #[.slice a1 (List.length p0) c1]) (by kernel_rfl) rfl (by kernel_rfl) st ?_)
  clear st
  intro b1 m1 w1 hle1 st hb1
  have hm := Mem.le_trans hm hle1
  have r1 := r1.mono hle1
  refine WO_one rfl (One_alloc (d := 4) (e := 24) (.agg #[.slice none 0 0]) (by kernel_rfl) rfl (by kernel_rfl) st ?_)
  clear st
  intro b2 w2 st
  refine WO_seg 2 [] (by kernel_rfl) (by kernel_rfl) ?_
  refine WO_end rfl ?_
  refine X_then ?_
  refine W_seq ?_
  refine W_region ?_
  refine WO_one rfl (One_load_row (d := 11) (t := 24) (x := (.tmp 2)) (.agg #[.slice a1 (List.length p0) c1]) (by kernel_rfl) rfl (show evL _ _ = some (.pointer (some ⟨b1, 0, none⟩)) from (by kernel_rfl)) st hb1 (by kernel_rfl) ?_)
  refine WO_seg 1 [(12, .string p1)] (by kernel_rfl) (by kernel_rfl) ?_
  refine WO_one rfl (One_buildSlice (d := 13) (t := 22) (e := 9) (len := 1) (parts := #[(0, (.tmp 12))]) cStr (xs := [p1]) [.string p1] (by kernel_rfl) rfl (fun _ => buildCells_run (by kernel_rfl) _) rfl rfl st ⟨[.string p1], _, rfl, rfl, rfl⟩ ?_)
  clear st
  intro b3 m2 w3 hle2 st r2
  have hm := Mem.le_trans hm hle2
  have hb1 := hb1.mono hle2
  have r1 := r1.mono hle2
  refine WO_seg 1 [(14, .agg #[.slice (some ⟨b3, 0, none⟩) (List.length ([p1])) 1])] (by kernel_rfl) (by kernel_rfl) ?_
  replace hr := bindS hr
  obtain ⟨y1, hx1, hr⟩ := hr
  refine WO_one rfl (One_fn 15 29 #[.agg #[.slice a1 (List.length p0) c1], .agg #[.slice (some ⟨b3, 0, none⟩) (List.length ([p1])) 1]] (by kernel_rfl) rfl ?_)
  refine (contents_Merge_ok st r1 r2 hx1).mono ?_
  clear st
  rintro _ w4 ⟨a2, c2, a3, c3, m3, rfl, hle3, st, r3, r4⟩
  refine ⟨_, rfl, ?_⟩
  have hm := Mem.le_trans hm hle3
  have hb1 := hb1.mono hle3
  have r1 := r1.mono hle3
  have r2 := r2.mono hle3
  refine WO_seg 4 [(16, .agg #[.slice a2 (List.length y1.1) c2]), (17, .slice a3 (List.length y1.2.1) c3), (18, .int .i64 y1.2.2)] (by kernel_rfl) (by kernel_rfl) ?_
  refine WO_one rfl (One_alloc (d := 7) (e := 24) (.agg #[.slice none 0 0]) (by kernel_rfl) rfl (by kernel_rfl) st ?_)
  clear st
  intro b4 w5 st
  refine WO_one rfl (One_store (t := 24) (x := (.tmp 7)) (y := (.tmp 16)) (v := .agg #[.slice a2 (List.length y1.1) c2]) (c' := #[.slice a2 (List.length y1.1) c2]) (by kernel_rfl) (show evL _ _ = some (.pointer (some ⟨b4, 0, none⟩)) from (by kernel_rfl)) (show evL _ _ = some (.agg #[.slice a2 (List.length y1.1) c2]) from (by kernel_rfl)) st (by kernel_rfl) (by kernel_rfl) ?_)
  clear st
  intro w6 st
  refine WO_seg 2 [(8, .slice a3 (List.length y1.2.1) c3), (9, .int .i64 y1.2.2)] (by kernel_rfl) (by kernel_rfl) ?_
  refine WO_end rfl ?_
  have st := st.front3
  have st := st.tail
  refine X_then ?_
  refine W_seq ?_
  refine W_seq ?_
  refine W_region ?_
  refine WO_seg 2 [(20, .bool (y1.2.2 != 0))] (by kernel_rfl) (by kernel_rfl) ?_
  refine WO_end rfl ?_
  refine X_then ?_
  refine W_cond (y1.2.2 != 0) (by kernel_rfl) ?_ ?_
  · intro hc
    rw [if_pos hc] at hr
    refine W_seq ?_
    refine W_region ?_
    refine WO_seg 2 [(21, .agg #[.slice none (List.length ([] : List (ByteArray))) 0]), (22, .int .i64 y1.2.2)] (by kernel_rfl) (by kernel_rfl) ?_
    have st := st.front3
    refine WO_one rfl (One_store (t := 24) (x := (.tmp 4)) (y := (.tmp 21)) (v := .agg #[.slice none (List.length ([] : List (ByteArray))) 0]) (c' := #[.slice none (List.length ([] : List (ByteArray))) 0]) (by kernel_rfl) (show evL _ _ = some (.pointer (some ⟨b2, 0, none⟩)) from (by kernel_rfl)) (show evL _ _ = some (.agg #[.slice none (List.length ([] : List (ByteArray))) 0]) from (by kernel_rfl)) st (by kernel_rfl) (by kernel_rfl) ?_)
    clear st
    intro w7 st
    refine WO_seg 2 [(5, .int .i64 0), (6, .int .i64 y1.2.2)] (by kernel_rfl) (by kernel_rfl) ?_
    refine WO_end rfl ?_
    have st := st.front3
    have st := st.tail
    refine X_then ?_
    refine W_ret ?_
    refine X_then_ret ?_
    obtain rfl := Option.some.inj hr
    refine X_ret [.cell 4 24, .tmp 5, .tmp 6] [.agg #[.slice none (List.length ([] : List (ByteArray))) 0], .int .i64 0, .int .i64 y1.2.2] rfl (ResAll.cons (ResAt.blk (v := .agg #[.slice none (List.length ([] : List (ByteArray))) 0]) (o := 0) (by kernel_rfl) st.head (by kernel_rfl)) (ResAll.cons (ResAt.tmp (by kernel_rfl)) (ResAll.cons (ResAt.tmp (by kernel_rfl)) ResAll.nil))) ?_
    have st := st.nilroom 9 1
    have st := st.front1
    have st := st.tail
    have st := st.front1
    have st := st.tail
    have st := st.front1
    have st := st.tail
    exact ⟨none, 0, m3, rfl, hm, st, (RepS.nil _ _)⟩
  · intro hc
    rw [if_neg (not_true hc)] at hr
    refine W_skip ?_
    refine X_then ?_
    refine W_seq ?_
    refine W_draw [(7, fun w' => Inv m3 w' ∧ Piece.holds m3 w' (.blk b4 (.cells #[.slice a2 (List.length y1.1) c2] 24 (0, 0))) ∧ True)] (by kernel_rfl) st ?_
    clear st
    intro w8 _ st
    have hmS := m3.le_refl
    refine ⟨⟨.inr ⟨Inv.anti st.inv hmS, Piece.holds_anti st.head hmS, trivial⟩, trivial⟩, ?_⟩
    refine WA_load_own (t := 24) (x := (.tmp 7)) 0 23 (.agg #[.slice a2 (List.length y1.1) c2]) (by kernel_rfl) rfl (by kernel_rfl) (.head _) (QP_then QP_body) (fun _ h => h.2.1) (show evL _ _ = some (.pointer (some ⟨b4, 0, none⟩)) from (by kernel_rfl)) (by kernel_rfl) ?_
    refine WA_pure 1 24 (.slice a3 (List.length y1.2.1) c3) (by kernel_rfl) rfl (by kernel_rfl) (.head _) (QP_then QP_body) ?_
    replace hr := bindS hr
    obtain ⟨x1, hx2, hr⟩ := hr
    refine WA_index (t := 32) (e := 3) (x := (.tmp 24)) (y := (.const (.int .i64 0))) 2 25 (cInt .i64) (by kernel_rfl) rfl (by kernel_rfl) (.head _) (QP_then QP_body) (show evL _ _ = some (.slice a3 (List.length y1.2.1) c3) from (by kernel_rfl)) (show evL _ _ = some (.int .i64 0) from (by kernel_rfl)) (by kernel_rfl) r4 hx2 ?_
    rintro b5 f1 cs1 rfl hq1
    refine WA_load_row (t := 3) (x := (.tmp 25)) 3 26 (.int .i64 x1) (by kernel_rfl) rfl (by kernel_rfl) (.head _) (QP_then QP_body) (fun _ h => h.1) (show evL _ _ = some (.pointer (some ⟨b5, f1, none⟩)) from (by kernel_rfl)) hq1 (by kernel_rfl) ?_
    have st := st.front3
    refine WA_one 4 (by kernel_rfl) (One_store (t := 24) (x := (.tmp 4)) (y := (.tmp 23)) (v := .agg #[.slice a2 (List.length y1.1) c2]) (c' := #[.slice a2 (List.length y1.1) c2]) (by kernel_rfl) (show evL _ _ = some (.pointer (some ⟨b2, 0, none⟩)) from (by kernel_rfl)) (show evL _ _ = some (.agg #[.slice a2 (List.length y1.1) c2]) from (by kernel_rfl)) st (by kernel_rfl) (by kernel_rfl) ?_)
    clear st
    intro w9 st
    refine ⟨⟨.inr ⟨Inv.anti st.inv hmS, Piece.holds_anti st.tail.head hmS, trivial⟩, trivial⟩, ?_⟩
    refine WA_pure 5 5 (.int .i64 x1) (by kernel_rfl) rfl (by kernel_rfl) (.head _) (QP_then QP_body) ?_
    refine WA_pure 6 6 (.int .i64 0) (by kernel_rfl) rfl (by kernel_rfl) (.head _) (QP_then QP_body) ?_
    refine WA_done (by kernel_rfl) ?_
    have st := st.front3
    have st := st.tail
    refine X_then ?_
    refine W_ret ?_
    obtain rfl := Option.some.inj hr
    refine X_ret [.cell 4 24, .tmp 5, .tmp 6] [.agg #[.slice a2 (List.length y1.1) c2], .int .i64 x1, .int .i64 0] rfl (ResAll.cons (ResAt.blk (v := .agg #[.slice a2 (List.length y1.1) c2]) (o := 0) (by kernel_rfl) st.head (by kernel_rfl)) (ResAll.cons (ResAt.tmp (by kernel_rfl)) (ResAll.cons (ResAt.tmp (by kernel_rfl)) ResAll.nil))) ?_
    have st := st.tail
    have st := st.tail
    exact ⟨a2, c2, m3, rfl, hm, st, r3⟩

def contents_Get (N : Nat) (p0 : List ByteArray) (p1 : Int) : Option (ByteArray × Int) :=
  (contents_Check N p0).bind fun y1 => if (y1 != 0) = true then (some ((⟨#[]⟩ : ByteArray), y1)) else ((if (decide (p1 < 0)) = true then (some true) else (some (decide (p1 ≥ (List.length p0 : Int)))) : Option (Bool)).bind fun o1 => if o1 = true then (some ((⟨#[]⟩ : ByteArray), 20)) else ((idx p0 p1).bind fun x1 => some (x1, 0)))

set_option maxHeartbeats 4000000 in
set_option maxRecDepth 100000 in
theorem contents_Get_ok {N : Nat} {m : Mem} {own : List Piece} {w : World} {p0 : List ByteArray} {p1 : Int} {a1 : Option Addr} {c1 : Nat} {r : ByteArray × Int} (st : St m (own) w) (r1 : RepS cStr m a1 c1 p0) (hr : contents_Get N p0 p1 = some r) : Calls Go.Proofs.Try.prog 23 #[.agg #[.slice a1 (List.length p0) c1], .int .i64 p1] w fun e w' => ∃ (m' : Mem), e = .returned (.tuple #[.string r.1, .int .i64 r.2]) ∧ m.le m' ∧ St m' (own) w' := by
  unfold contents_Get at hr
  have hm := m.le_refl
  refine W_calls Go.Proofs.Try.func23 rfl Go.Proofs.Try.ntmps23 [(0, .agg #[.slice a1 (List.length p0) c1]), (1, .int .i64 p1)] (by kernel_rfl) rfl ?_
  refine W_seq ?_
  refine W_region ?_
  refine WO_one rfl (One_box (d := 2) (e := 24) (x := (.tmp 0)) (.agg #[.slice a1 (List.length p0) c1]) (by kernel_rfl) rfl (by kernel_rfl) st ?_)
  clear st
  intro b1 m1 w1 hle1 st hb1
  have hm := Mem.le_trans hm hle1
  have r1 := r1.mono hle1
  refine WO_seg 2 [] (by kernel_rfl) (by kernel_rfl) ?_
  refine WO_end rfl ?_
  refine X_then ?_
  refine W_seq ?_
  refine W_seq ?_
  refine W_region ?_
  refine WO_one rfl (One_load_row (d := 7) (t := 24) (x := (.tmp 2)) (.agg #[.slice a1 (List.length p0) c1]) (by kernel_rfl) rfl (show evL _ _ = some (.pointer (some ⟨b1, 0, none⟩)) from (by kernel_rfl)) st hb1 (by kernel_rfl) ?_)
  replace hr := bindS hr
  obtain ⟨y1, hx1, hr⟩ := hr
  refine WO_one rfl (One_fn 8 14 #[.agg #[.slice a1 (List.length p0) c1]] (by kernel_rfl) rfl ?_)
  refine (contents_Check_ok st r1 hx1).mono ?_
  clear st
  rintro _ w2 ⟨m2, rfl, hle2, st⟩
  refine ⟨_, rfl, ?_⟩
  have hm := Mem.le_trans hm hle2
  have hb1 := hb1.mono hle2
  have r1 := r1.mono hle2
  refine WO_seg 1 [(6, .int .i64 y1)] (by kernel_rfl) (by kernel_rfl) ?_
  refine WO_end rfl ?_
  refine X_then ?_
  refine W_seq ?_
  refine W_region ?_
  refine WO_seg 2 [(10, .bool (y1 != 0))] (by kernel_rfl) (by kernel_rfl) ?_
  refine WO_end rfl ?_
  refine X_then ?_
  refine W_cond (y1 != 0) (by kernel_rfl) ?_ ?_
  · intro hc
    rw [if_pos hc] at hr
    refine W_seq ?_
    refine W_region ?_
    refine WO_seg 3 [(4, .string (⟨#[]⟩ : ByteArray)), (5, .int .i64 y1)] (by kernel_rfl) (by kernel_rfl) ?_
    refine WO_end rfl ?_
    refine X_then ?_
    refine W_ret ?_
    refine X_then_ret ?_
    obtain rfl := Option.some.inj hr
    refine X_ret [.tmp 4, .tmp 5] [.string (⟨#[]⟩ : ByteArray), .int .i64 y1] rfl (ResAll.cons (ResAt.tmp (by kernel_rfl)) (ResAll.cons (ResAt.tmp (by kernel_rfl)) ResAll.nil)) ?_
    exact ⟨m2, rfl, hm, st⟩
  · intro hc
    rw [if_neg (not_true hc)] at hr
    refine W_skip ?_
    refine X_then ?_
    refine W_seq ?_
    refine W_seq ?_
    refine W_region ?_
    replace hr := bindS hr
    obtain ⟨o1, hr, hrK⟩ := hr
    refine WO_cut (j := 9) (fun L' w' => ∃ (m3 : Mem), L' = [(1, .int .i64 p1), (2, .pointer (some ⟨b1, 0, none⟩)), (20, .bool o1)] ∧ m.le m3 ∧ St m3 (own) w' ∧ MRow m3 b1 0 [.slice a1 (List.length p0) c1] ∧ RepS cStr m3 a1 c1 p0) ?_ ?_
    · clear hr st
      have hr := hrK
      clear hrK
      rintro _ w3 ⟨m3, rfl, hm, st, hb1, r1⟩
      refine WO_end rfl ?_
      refine X_then ?_
      refine W_cond o1 (by kernel_rfl) ?_ ?_
      · intro hc
        rw [if_pos hc] at hr
        refine W_seq ?_
        refine W_region ?_
        refine WO_seg 2 [(4, .string (⟨#[]⟩ : ByteArray)), (5, .int .i64 20)] (by kernel_rfl) (by kernel_rfl) ?_
        refine WO_end rfl ?_
        refine X_then ?_
        refine W_ret ?_
        refine X_then_ret ?_
        obtain rfl := Option.some.inj hr
        refine X_ret [.tmp 4, .tmp 5] [.string (⟨#[]⟩ : ByteArray), .int .i64 20] rfl (ResAll.cons (ResAt.tmp (by kernel_rfl)) (ResAll.cons (ResAt.tmp (by kernel_rfl)) ResAll.nil)) ?_
        exact ⟨m3, rfl, hm, st⟩
      · intro hc
        rw [if_neg (not_true hc)] at hr
        refine W_skip ?_
        refine X_then ?_
        refine W_seq ?_
        refine W_region ?_
        refine WO_seg 1 [(21, .pointer (some ⟨b1, 0, none⟩))] (by kernel_rfl) (by kernel_rfl) ?_
        refine WO_one rfl (One_load_row (d := 22) (t := 22) (x := (.tmp 21)) (.slice a1 (List.length p0) c1) (by kernel_rfl) rfl (show evL _ _ = some (.pointer (some ⟨b1, 0, none⟩)) from (by kernel_rfl)) st hb1 (by kernel_rfl) ?_)
        refine WO_seg 1 [(23, .int .i64 p1)] (by kernel_rfl) (by kernel_rfl) ?_
        replace hr := bindS hr
        obtain ⟨x1, hx2, hr⟩ := hr
        refine WO_one rfl (One_index (d := 24) (t := 22) (e := 9) (x := (.tmp 22)) (y := (.tmp 23)) cStr (by kernel_rfl) rfl (show evL _ _ = some (.slice a1 (List.length p0) c1) from (by kernel_rfl)) (show evL _ _ = some (.int .i64 p1) from (by kernel_rfl)) (by kernel_rfl) r1 hx2 ?_)
        rintro b2 f1 cs1 rfl hq1
        refine WO_one rfl (One_load_row (d := 25) (t := 9) (x := (.tmp 24)) (.string x1) (by kernel_rfl) rfl (show evL _ _ = some (.pointer (some ⟨b2, f1, none⟩)) from (by kernel_rfl)) st hq1 (by kernel_rfl) ?_)
        refine WO_seg 2 [(4, .string x1), (5, .int .i64 0)] (by kernel_rfl) (by kernel_rfl) ?_
        refine WO_end rfl ?_
        refine X_then ?_
        refine W_ret ?_
        obtain rfl := Option.some.inj hr
        refine X_ret [.tmp 4, .tmp 5] [.string x1, .int .i64 0] rfl (ResAll.cons (ResAt.tmp (by kernel_rfl)) (ResAll.cons (ResAt.tmp (by kernel_rfl)) ResAll.nil)) ?_
        exact ⟨m3, rfl, hm, st⟩
    · intro K
      clear hrK
      refine WO_seg 3 [(14, .bool (decide (p1 < 0)))] (by kernel_rfl) (by kernel_rfl) ?_
      rcases bcases (decide (p1 < 0)) with hc | hc
      · rw [if_pos hc] at hr
        refine WO_fact (t := 14) (b := true) (decide (p1 < 0)) (by kernel_rfl) hc ?_
        refine WO_seg 6 [(20, .bool true)] (by kernel_rfl) (by kernel_rfl) ?_
        obtain rfl := Option.some.inj hr
        exact WO_env _ (by kernel_rfl) (K _ _ ⟨m2, rfl, hm, st, hb1, r1⟩)
      · rw [if_neg (not_true hc)] at hr
        refine WO_fact (t := 14) (b := false) (decide (p1 < 0)) (by kernel_rfl) hc ?_
        refine WO_seg 2 [(15, .int .i64 p1), (16, .pointer (some ⟨b1, 0, none⟩))] (by kernel_rfl) (by kernel_rfl) ?_
        refine WO_one rfl (One_load_row (d := 17) (t := 22) (x := (.tmp 16)) (.slice a1 (List.length p0) c1) (by kernel_rfl) rfl (show evL _ _ = some (.pointer (some ⟨b1, 0, none⟩)) from (by kernel_rfl)) st hb1 (by kernel_rfl) ?_)
        refine WO_seg 3 [(20, .bool (decide (p1 ≥ (List.length p0 : Int))))] (by kernel_rfl) (by kernel_rfl) ?_
        obtain rfl := Option.some.inj hr
        exact WO_env _ (by kernel_rfl) (K _ _ ⟨m2, rfl, hm, st, hb1, r1⟩)

def testgatelaw13_awake (N : Nat) : Option (Bool) :=
  (contents_Put N ([] : List (ByteArray)) (⟨#[120]⟩ : ByteArray)).bind fun y1 => (contents_Put N y1.1 (⟨#[121]⟩ : ByteArray)).bind fun y2 => (contents_Put N y2.1 (⟨#[120]⟩ : ByteArray)).bind fun y3 => (contents_Get N y3.1 1).bind fun y4 => (if (y1.2.2 == 0) = true then (if (y2.2.2 == 0) = true then (if (y3.2.2 == 0) = true then (if (y4.2 == 0) = true then (if (y1.2.1 == 0) = true then (if (y2.2.1 == 1) = true then (if (y3.2.1 == 0) = true then (if (y4.1.toList == (⟨#[121]⟩ : ByteArray).toList) = true then (some ((List.length y3.1 : Int) == 2)) else (some false)) else (some false)) else (some false)) else (some false)) else (some false)) else (some false)) else (some false)) else (some false) : Option (Bool)).bind fun o1 => some o1

set_option maxHeartbeats 4000000 in
set_option maxRecDepth 100000 in
theorem testgatelaw13_awake_ok {N : Nat} {m : Mem} {own : List Piece} {w : World} {r : Bool} (st : St m (own) w) (hr : testgatelaw13_awake N = some r) : Calls Go.Proofs.Try.prog 15 #[] w fun e w' => ∃ (m' : Mem), e = .returned (.bool r) ∧ m.le m' ∧ St m' (own) w' := by
  unfold testgatelaw13_awake at hr
  have hm := m.le_refl
  refine W_calls Go.Proofs.Try.func15 rfl Go.Proofs.Try.ntmps15 [] (by kernel_rfl) rfl ?_
  refine W_seq ?_
  refine W_region ?_
  refine WO_seg 1 [] (by kernel_rfl) (by kernel_rfl) ?_
  refine WO_end rfl ?_
  refine X_then ?_
  refine W_seq ?_
  refine W_region ?_
  refine WO_seg 1 [(11, .agg #[.slice none (List.length ([] : List (ByteArray))) 0])] (by kernel_rfl) (by kernel_rfl) ?_
  replace hr := bindS hr
  obtain ⟨y1, hx1, hr⟩ := hr
  refine WO_one rfl (One_fn 12 13 #[.agg #[.slice none (List.length ([] : List (ByteArray))) 0], .string (⟨#[120]⟩ : ByteArray)] (by kernel_rfl) rfl ?_)
  refine (contents_Put_ok st (RepS.nil _ _) hx1).mono ?_
  clear st
  rintro _ w1 ⟨a1, c1, m1, rfl, hle1, st, r1⟩
  refine ⟨_, rfl, ?_⟩
  have hm := Mem.le_trans hm hle1
  refine WO_seg 4 [(13, .agg #[.slice a1 (List.length y1.1) c1]), (14, .int .i64 y1.2.1), (15, .int .i64 y1.2.2)] (by kernel_rfl) (by kernel_rfl) ?_
  refine WO_one rfl (One_alloc (d := 1) (e := 24) (.agg #[.slice none 0 0]) (by kernel_rfl) rfl (by kernel_rfl) st ?_)
  clear st
  intro b1 w2 st
  refine WO_one rfl (One_store (t := 24) (x := (.tmp 1)) (y := (.tmp 13)) (v := .agg #[.slice a1 (List.length y1.1) c1]) (c' := #[.slice a1 (List.length y1.1) c1]) (by kernel_rfl) (show evL _ _ = some (.pointer (some ⟨b1, 0, none⟩)) from (by kernel_rfl)) (show evL _ _ = some (.agg #[.slice a1 (List.length y1.1) c1]) from (by kernel_rfl)) st (by kernel_rfl) (by kernel_rfl) ?_)
  clear st
  intro w3 st
  refine WO_seg 2 [(2, .int .i64 y1.2.1), (3, .int .i64 y1.2.2)] (by kernel_rfl) (by kernel_rfl) ?_
  refine WO_end rfl ?_
  refine X_then ?_
  refine W_seq ?_
  refine W_region ?_
  refine WO_one rfl (One_load_own (d := 17) (t := 24) (x := (.tmp 1)) (.agg #[.slice a1 (List.length y1.1) c1]) (by kernel_rfl) rfl (show evL _ _ = some (.pointer (some ⟨b1, 0, none⟩)) from (by kernel_rfl)) st.head (by kernel_rfl) ?_)
  replace hr := bindS hr
  obtain ⟨y2, hx2, hr⟩ := hr
  refine WO_one rfl (One_fn 18 13 #[.agg #[.slice a1 (List.length y1.1) c1], .string (⟨#[121]⟩ : ByteArray)] (by kernel_rfl) rfl ?_)
  refine (contents_Put_ok st r1 hx2).mono ?_
  clear st
  rintro _ w4 ⟨a2, c2, m2, rfl, hle2, st, r2⟩
  refine ⟨_, rfl, ?_⟩
  have hm := Mem.le_trans hm hle2
  have r1 := r1.mono hle2
  refine WO_seg 4 [(19, .agg #[.slice a2 (List.length y2.1) c2]), (20, .int .i64 y2.2.1), (21, .int .i64 y2.2.2)] (by kernel_rfl) (by kernel_rfl) ?_
  have st := st.front1
  refine WO_one rfl (One_store (t := 24) (x := (.tmp 1)) (y := (.tmp 19)) (v := .agg #[.slice a2 (List.length y2.1) c2]) (c' := #[.slice a2 (List.length y2.1) c2]) (by kernel_rfl) (show evL _ _ = some (.pointer (some ⟨b1, 0, none⟩)) from (by kernel_rfl)) (show evL _ _ = some (.agg #[.slice a2 (List.length y2.1) c2]) from (by kernel_rfl)) st (by kernel_rfl) (by kernel_rfl) ?_)
  clear st
  intro w5 st
  refine WO_seg 2 [(4, .int .i64 y2.2.1), (5, .int .i64 y2.2.2)] (by kernel_rfl) (by kernel_rfl) ?_
  refine WO_end rfl ?_
  have st := st.front2
  have st := st.tail
  refine X_then ?_
  refine W_seq ?_
  refine W_region ?_
  refine WO_one rfl (One_load_own (d := 23) (t := 24) (x := (.tmp 1)) (.agg #[.slice a2 (List.length y2.1) c2]) (by kernel_rfl) rfl (show evL _ _ = some (.pointer (some ⟨b1, 0, none⟩)) from (by kernel_rfl)) st.head (by kernel_rfl) ?_)
  replace hr := bindS hr
  obtain ⟨y3, hx3, hr⟩ := hr
  refine WO_one rfl (One_fn 24 13 #[.agg #[.slice a2 (List.length y2.1) c2], .string (⟨#[120]⟩ : ByteArray)] (by kernel_rfl) rfl ?_)
  refine (contents_Put_ok st r2 hx3).mono ?_
  clear st
  rintro _ w6 ⟨a3, c3, m3, rfl, hle3, st, r3⟩
  refine ⟨_, rfl, ?_⟩
  have hm := Mem.le_trans hm hle3
  have r2 := r2.mono hle3
  refine WO_seg 4 [(25, .agg #[.slice a3 (List.length y3.1) c3]), (26, .int .i64 y3.2.1), (27, .int .i64 y3.2.2)] (by kernel_rfl) (by kernel_rfl) ?_
  have st := st.front1
  refine WO_one rfl (One_store (t := 24) (x := (.tmp 1)) (y := (.tmp 25)) (v := .agg #[.slice a3 (List.length y3.1) c3]) (c' := #[.slice a3 (List.length y3.1) c3]) (by kernel_rfl) (show evL _ _ = some (.pointer (some ⟨b1, 0, none⟩)) from (by kernel_rfl)) (show evL _ _ = some (.agg #[.slice a3 (List.length y3.1) c3]) from (by kernel_rfl)) st (by kernel_rfl) (by kernel_rfl) ?_)
  clear st
  intro w7 st
  refine WO_seg 2 [(6, .int .i64 y3.2.1), (7, .int .i64 y3.2.2)] (by kernel_rfl) (by kernel_rfl) ?_
  refine WO_end rfl ?_
  have st := st.front2
  have st := st.tail
  refine X_then ?_
  refine W_seq ?_
  refine W_region ?_
  refine WO_one rfl (One_load_own (d := 29) (t := 24) (x := (.tmp 1)) (.agg #[.slice a3 (List.length y3.1) c3]) (by kernel_rfl) rfl (show evL _ _ = some (.pointer (some ⟨b1, 0, none⟩)) from (by kernel_rfl)) st.head (by kernel_rfl) ?_)
  replace hr := bindS hr
  obtain ⟨y4, hx4, hr⟩ := hr
  refine WO_one rfl (One_fn 30 23 #[.agg #[.slice a3 (List.length y3.1) c3], .int .i64 1] (by kernel_rfl) rfl ?_)
  refine (contents_Get_ok st r3 hx4).mono ?_
  clear st
  rintro _ w8 ⟨m4, rfl, hle4, st⟩
  refine ⟨_, rfl, ?_⟩
  have hm := Mem.le_trans hm hle4
  have r3 := r3.mono hle4
  refine WO_seg 5 [(8, .string y4.1), (9, .int .i64 y4.2)] (by kernel_rfl) (by kernel_rfl) ?_
  refine WO_end rfl ?_
  refine X_then ?_
  refine W_seq ?_
  refine W_region ?_
  replace hr := bindS hr
  obtain ⟨o1, hr, hrK⟩ := hr
  refine WO_cut (j := 37) (fun L' w' => ∃ (m5 : Mem), L' = [(0, .bool o1)] ∧ m.le m5 ∧ St m5 (.blk b1 (.cells #[.slice a3 (List.length y3.1) c3] 24 (0, 0)) :: .room a3 (List.length y3.1) c3 9 1 :: own) w' ∧ RepS cStr m5 a3 c3 y3.1) ?_ ?_
  · clear hr st
    have hr := hrK
    clear hrK
    rintro _ w9 ⟨m5, rfl, hm, st, r3⟩
    refine WO_end rfl ?_
    refine X_then ?_
    refine W_ret ?_
    obtain rfl := Option.some.inj hr
    refine X_ret [.tmp 0] [.bool o1] rfl (ResAll.cons (ResAt.tmp (by kernel_rfl)) ResAll.nil) ?_
    have st := st.tail
    have st := st.tail
    exact ⟨m5, rfl, hm, st⟩
  · intro K
    clear hrK
    refine WO_seg 3 [(35, .bool (y1.2.2 == 0))] (by kernel_rfl) (by kernel_rfl) ?_
    rcases bcases (y1.2.2 == 0) with hc | hc
    · rw [if_pos hc] at hr
      refine WO_fact (t := 35) (b := true) (y1.2.2 == 0) (by kernel_rfl) hc ?_
      refine WO_seg 4 [(39, .bool (y2.2.2 == 0))] (by kernel_rfl) (by kernel_rfl) ?_
      rcases bcases (y2.2.2 == 0) with hc | hc
      · rw [if_pos hc] at hr
        refine WO_fact (t := 39) (b := true) (y2.2.2 == 0) (by kernel_rfl) hc ?_
        refine WO_seg 4 [(43, .bool (y3.2.2 == 0))] (by kernel_rfl) (by kernel_rfl) ?_
        rcases bcases (y3.2.2 == 0) with hc | hc
        · rw [if_pos hc] at hr
          refine WO_fact (t := 43) (b := true) (y3.2.2 == 0) (by kernel_rfl) hc ?_
          refine WO_seg 4 [(47, .bool (y4.2 == 0))] (by kernel_rfl) (by kernel_rfl) ?_
          rcases bcases (y4.2 == 0) with hc | hc
          · rw [if_pos hc] at hr
            refine WO_fact (t := 47) (b := true) (y4.2 == 0) (by kernel_rfl) hc ?_
            refine WO_seg 4 [(51, .bool (y1.2.1 == 0))] (by kernel_rfl) (by kernel_rfl) ?_
            rcases bcases (y1.2.1 == 0) with hc | hc
            · rw [if_pos hc] at hr
              refine WO_fact (t := 51) (b := true) (y1.2.1 == 0) (by kernel_rfl) hc ?_
              refine WO_seg 4 [(55, .bool (y2.2.1 == 1))] (by kernel_rfl) (by kernel_rfl) ?_
              rcases bcases (y2.2.1 == 1) with hc | hc
              · rw [if_pos hc] at hr
                refine WO_fact (t := 55) (b := true) (y2.2.1 == 1) (by kernel_rfl) hc ?_
                refine WO_seg 4 [(59, .bool (y3.2.1 == 0))] (by kernel_rfl) (by kernel_rfl) ?_
                rcases bcases (y3.2.1 == 0) with hc | hc
                · rw [if_pos hc] at hr
                  refine WO_fact (t := 59) (b := true) (y3.2.1 == 0) (by kernel_rfl) hc ?_
                  refine WO_seg 4 [(63, .bool (y4.1.toList == (⟨#[121]⟩ : ByteArray).toList))] (by kernel_rfl) (by kernel_rfl) ?_
                  rcases bcases (y4.1.toList == (⟨#[121]⟩ : ByteArray).toList) with hc | hc
                  · rw [if_pos hc] at hr
                    refine WO_fact (t := 63) (b := true) (y4.1.toList == (⟨#[121]⟩ : ByteArray).toList) (by kernel_rfl) hc ?_
                    refine WO_seg 1 [(64, .pointer (some ⟨b1, 0, none⟩))] (by kernel_rfl) (by kernel_rfl) ?_
                    refine WO_one rfl (One_load_own (d := 65) (t := 22) (x := (.tmp 64)) (.slice a3 (List.length y3.1) c3) (by kernel_rfl) rfl (show evL _ _ = some (.pointer (some ⟨b1, 0, none⟩)) from (by kernel_rfl)) st.head (by kernel_rfl) ?_)
                    refine WO_seg 4 [(0, .bool ((List.length y3.1 : Int) == 2))] (by kernel_rfl) (by kernel_rfl) ?_
                    obtain rfl := Option.some.inj hr
                    have st := st.front1
                    have st := st.front1
                    exact WO_env _ (by kernel_rfl) (K _ _ ⟨m4, rfl, hm, st, r3⟩)
                  · rw [if_neg (not_true hc)] at hr
                    refine WO_fact (t := 63) (b := false) (y4.1.toList == (⟨#[121]⟩ : ByteArray).toList) (by kernel_rfl) hc ?_
                    refine WO_seg 6 [(0, .bool false)] (by kernel_rfl) (by kernel_rfl) ?_
                    obtain rfl := Option.some.inj hr
                    have st := st.front1
                    have st := st.front1
                    exact WO_env _ (by kernel_rfl) (K _ _ ⟨m4, rfl, hm, st, r3⟩)
                · rw [if_neg (not_true hc)] at hr
                  refine WO_fact (t := 59) (b := false) (y3.2.1 == 0) (by kernel_rfl) hc ?_
                  refine WO_seg 10 [(0, .bool false)] (by kernel_rfl) (by kernel_rfl) ?_
                  obtain rfl := Option.some.inj hr
                  have st := st.front1
                  have st := st.front1
                  exact WO_env _ (by kernel_rfl) (K _ _ ⟨m4, rfl, hm, st, r3⟩)
              · rw [if_neg (not_true hc)] at hr
                refine WO_fact (t := 55) (b := false) (y2.2.1 == 1) (by kernel_rfl) hc ?_
                refine WO_seg 14 [(0, .bool false)] (by kernel_rfl) (by kernel_rfl) ?_
                obtain rfl := Option.some.inj hr
                have st := st.front1
                have st := st.front1
                exact WO_env _ (by kernel_rfl) (K _ _ ⟨m4, rfl, hm, st, r3⟩)
            · rw [if_neg (not_true hc)] at hr
              refine WO_fact (t := 51) (b := false) (y1.2.1 == 0) (by kernel_rfl) hc ?_
              refine WO_seg 18 [(0, .bool false)] (by kernel_rfl) (by kernel_rfl) ?_
              obtain rfl := Option.some.inj hr
              have st := st.front1
              have st := st.front1
              exact WO_env _ (by kernel_rfl) (K _ _ ⟨m4, rfl, hm, st, r3⟩)
          · rw [if_neg (not_true hc)] at hr
            refine WO_fact (t := 47) (b := false) (y4.2 == 0) (by kernel_rfl) hc ?_
            refine WO_seg 22 [(0, .bool false)] (by kernel_rfl) (by kernel_rfl) ?_
            obtain rfl := Option.some.inj hr
            have st := st.front1
            have st := st.front1
            exact WO_env _ (by kernel_rfl) (K _ _ ⟨m4, rfl, hm, st, r3⟩)
        · rw [if_neg (not_true hc)] at hr
          refine WO_fact (t := 43) (b := false) (y3.2.2 == 0) (by kernel_rfl) hc ?_
          refine WO_seg 26 [(0, .bool false)] (by kernel_rfl) (by kernel_rfl) ?_
          obtain rfl := Option.some.inj hr
          have st := st.front1
          have st := st.front1
          exact WO_env _ (by kernel_rfl) (K _ _ ⟨m4, rfl, hm, st, r3⟩)
      · rw [if_neg (not_true hc)] at hr
        refine WO_fact (t := 39) (b := false) (y2.2.2 == 0) (by kernel_rfl) hc ?_
        refine WO_seg 30 [(0, .bool false)] (by kernel_rfl) (by kernel_rfl) ?_
        obtain rfl := Option.some.inj hr
        have st := st.front1
        have st := st.front1
        exact WO_env _ (by kernel_rfl) (K _ _ ⟨m4, rfl, hm, st, r3⟩)
    · rw [if_neg (not_true hc)] at hr
      refine WO_fact (t := 35) (b := false) (y1.2.2 == 0) (by kernel_rfl) hc ?_
      refine WO_seg 34 [(0, .bool false)] (by kernel_rfl) (by kernel_rfl) ?_
      obtain rfl := Option.some.inj hr
      have st := st.front1
      have st := st.front1
      exact WO_env _ (by kernel_rfl) (K _ _ ⟨m4, rfl, hm, st, r3⟩)

def testgatelaw13_ContentsFull_L1 (N : Nat) (p0 : Int) (s1 : Int × List (ByteArray)) : Option ((Int × List (ByteArray)) ⊕ ((List (ByteArray)))) :=
  if (decide (s1.1 < (IntKind.wrap .i64 (4094 + (IntKind.wrap .i64 (Int.tmod p0 4)))))) = true then ((testgatemake_Digits N s1.1).bind fun y1 => (appendS 16 s1.2 ([y1])).bind fun l1 => some (.inl (IntKind.wrap .i64 (s1.1 + 1), l1))) else (some (.inr s1.2))

def testgatelaw13_ContentsFull (N : Nat) (p0 : Int) : Option (Bool) :=
  (loopM (testgatelaw13_ContentsFull_L1 N p0) N (0, ([] : List (ByteArray)))).bind fun o1 => (contents_Put N o1 (⟨#[110, 101, 119]⟩ : ByteArray)).bind fun y2 => if (decide ((IntKind.wrap .i64 (4094 + (IntKind.wrap .i64 (Int.tmod p0 4)))) > 4096)) = true then ((if (y2.2.2 == 2) = true then ((contents_Check N o1).bind fun y3 => if (y3 == 2) = true then ((testgatelaw13_awake N).bind fun y4 => some y4) else (some false)) else (some false) : Option (Bool)).bind fun o2 => some o2) else (if ((IntKind.wrap .i64 (4094 + (IntKind.wrap .i64 (Int.tmod p0 4)))) == 4096) = true then ((contents_Put N o1 (⟨#[55]⟩ : ByteArray)).bind fun y5 => (if (y2.2.2 == 2) = true then (if (y5.2.2 == 0) = true then (if (y5.2.1 == 7) = true then ((contents_Check N o1).bind fun y6 => if (y6 == 0) = true then ((testgatelaw13_awake N).bind fun y7 => some y7) else (some false)) else (some false)) else (some false)) else (some false) : Option (Bool)).bind fun o3 => some o3) else ((if (y2.2.2 == 0) = true then (if (y2.2.1 == (IntKind.wrap .i64 (4094 + (IntKind.wrap .i64 (Int.tmod p0 4))))) = true then (if ((List.length y2.1 : Int) == (IntKind.wrap .i64 ((IntKind.wrap .i64 (4094 + (IntKind.wrap .i64 (Int.tmod p0 4)))) + 1))) = true then ((testgatelaw13_awake N).bind fun y8 => some y8) else (some false)) else (some false)) else (some false) : Option (Bool)).bind fun o4 => some o4))

set_option maxHeartbeats 4000000 in
set_option maxRecDepth 100000 in
theorem testgatelaw13_ContentsFull_ok {N : Nat} {m : Mem} {own : List Piece} {w : World} {p0 : Int} {r : Bool} (st : St m (own) w) (hr : testgatelaw13_ContentsFull N p0 = some r) : Calls Go.Proofs.Try.prog 3 #[.int .u8 p0] w fun e w' => ∃ (m' : Mem), e = .returned (.bool r) ∧ m.le m' ∧ St m' (own) w' := by
  unfold testgatelaw13_ContentsFull at hr
  have hm := m.le_refl
  refine W_calls Go.Proofs.Try.func3 rfl Go.Proofs.Try.ntmps3 [(0, .int .u8 p0)] (by kernel_rfl) rfl ?_
  refine W_seq ?_
  refine W_region ?_
  refine WO_seg 1 [] (by kernel_rfl) (by kernel_rfl) ?_
  refine WO_end rfl ?_
  refine X_then ?_
  refine W_seq ?_
  refine W_region ?_
  refine WO_seg 5 [(3, .int .i64 (IntKind.wrap .i64 (4094 + (IntKind.wrap .i64 (Int.tmod p0 4)))))] (by kernel_rfl) (by kernel_rfl) ?_
  refine WO_end rfl ?_
  refine X_then ?_
  refine W_seq ?_
  refine W_region ?_
  refine WO_one rfl (One_alloc (d := 4) (e := 24) (.agg #[.slice none 0 0]) (by kernel_rfl) rfl (by kernel_rfl) st ?_)
  clear st
  intro b1 w1 st
  refine WO_end rfl ?_
  refine X_then ?_
  refine W_seq ?_
  refine W_seq ?_
  refine W_region ?_
  refine WO_seg 1 [(5, .int .i64 0)] (by kernel_rfl) (by kernel_rfl) ?_
  refine WO_end rfl ?_
  refine X_then ?_
  refine W_block ?_
  replace hr := bindS hr
  obtain ⟨out1, hr, hrKu1⟩ := hr
  refine W_cut (.exit 0) (fun L' w' => ∃ (o1 : List (ByteArray)) (a1 : Option Addr) (c1 : Nat) (m1 : Mem), o1 = out1 ∧ L' = [(3, .int .i64 (IntKind.wrap .i64 (4094 + (IntKind.wrap .i64 (Int.tmod p0 4))))), (4, .pointer (some ⟨b1, 0, none⟩))] ∧ m.le m1 ∧ St m1 (.blk b1 (.cells #[.slice a1 (List.length o1) c1] 24 (0, 0)) :: .room a1 (List.length o1) c1 9 1 :: own) w' ∧ RepS cStr m1 a1 c1 o1) ?_ ?_
  · clear hr st
    rintro _ w2 ⟨o1, a1, c1, m1, rfl, rfl, hm, st, r1⟩
    have hr := hrKu1
    clear hrKu1
    refine X_block_eq ?_
    refine X_then ?_
    refine W_seq ?_
    refine W_region ?_
    refine WO_one rfl (One_load_own (d := 29) (t := 24) (x := (.tmp 4)) (.agg #[.slice a1 (List.length o1) c1]) (by kernel_rfl) rfl (show evL _ _ = some (.pointer (some ⟨b1, 0, none⟩)) from (by kernel_rfl)) st.head (by kernel_rfl) ?_)
    replace hr := bindS hr
    obtain ⟨y2, hx3, hr⟩ := hr
    refine WO_one rfl (One_fn 30 13 #[.agg #[.slice a1 (List.length o1) c1], .string (⟨#[110, 101, 119]⟩ : ByteArray)] (by kernel_rfl) rfl ?_)
    refine (contents_Put_ok st r1 hx3).mono ?_
    clear st
    rintro _ w9 ⟨a4, c4, m6, rfl, hle4, st, r5⟩
    refine ⟨_, rfl, ?_⟩
    have hm := Mem.le_trans hm hle4
    have r1 := r1.mono hle4
    refine WO_seg 4 [(31, .agg #[.slice a4 (List.length y2.1) c4]), (32, .int .i64 y2.2.1), (33, .int .i64 y2.2.2)] (by kernel_rfl) (by kernel_rfl) ?_
    refine WO_one rfl (One_alloc (d := 6) (e := 24) (.agg #[.slice none 0 0]) (by kernel_rfl) rfl (by kernel_rfl) st ?_)
    clear st
    intro b3 w10 st
    refine WO_one rfl (One_store (t := 24) (x := (.tmp 6)) (y := (.tmp 31)) (v := .agg #[.slice a4 (List.length y2.1) c4]) (c' := #[.slice a4 (List.length y2.1) c4]) (by kernel_rfl) (show evL _ _ = some (.pointer (some ⟨b3, 0, none⟩)) from (by kernel_rfl)) (show evL _ _ = some (.agg #[.slice a4 (List.length y2.1) c4]) from (by kernel_rfl)) st (by kernel_rfl) (by kernel_rfl) ?_)
    clear st
    intro w11 st
    refine WO_seg 2 [(7, .int .i64 y2.2.1), (8, .int .i64 y2.2.2)] (by kernel_rfl) (by kernel_rfl) ?_
    refine WO_end rfl ?_
    refine X_then ?_
    refine W_seq ?_
    refine W_block ?_
    refine W_seq ?_
    refine W_region ?_
    refine WO_seg 3 [(34, .bool (decide ((IntKind.wrap .i64 (4094 + (IntKind.wrap .i64 (Int.tmod p0 4)))) > 4096)))] (by kernel_rfl) (by kernel_rfl) ?_
    refine WO_end rfl ?_
    refine X_then ?_
    refine W_cond (decide ((IntKind.wrap .i64 (4094 + (IntKind.wrap .i64 (Int.tmod p0 4)))) > 4096)) (by kernel_rfl) ?_ ?_
    · intro hc
      rw [if_pos hc] at hr
      refine W_seq ?_
      refine W_region ?_
      replace hr := bindS hr
      obtain ⟨o2, hr, hrK⟩ := hr
      refine WO_cut (j := 11) (fun L' w' => ∃ (m7 : Mem), L' = [(2, .bool o2)] ∧ m.le m7 ∧ St m7 (.blk b3 (.cells #[.slice a4 (List.length y2.1) c4] 24 (0, 0)) :: .blk b1 (.cells #[.slice a1 (List.length o1) c1] 24 (0, 0)) :: .room a4 (List.length y2.1) c4 9 1 :: .room a1 (List.length o1) c1 9 1 :: own) w' ∧ RepS cStr m7 a4 c4 y2.1 ∧ RepS cStr m7 a1 c1 o1) ?_ ?_
      · clear hr st
        have hr := hrK
        clear hrK
        rintro _ w12 ⟨m7, rfl, hm, st, r5, r1⟩
        refine WO_end rfl ?_
        refine X_then ?_
        refine W_ret ?_
        refine X_block_ret ?_
        refine X_then_ret ?_
        obtain rfl := Option.some.inj hr
        refine X_ret [.tmp 2] [.bool o2] rfl (ResAll.cons (ResAt.tmp (by kernel_rfl)) ResAll.nil) ?_
        have st := st.tail
        have st := st.tail
        have st := st.tail
        have st := st.tail
        exact ⟨m7, rfl, hm, st⟩
      · intro K
        clear hrK
        refine WO_seg 3 [(39, .bool (y2.2.2 == 2))] (by kernel_rfl) (by kernel_rfl) ?_
        rcases bcases (y2.2.2 == 2) with hc | hc
        · rw [if_pos hc] at hr
          refine WO_fact (t := 39) (b := true) (y2.2.2 == 2) (by kernel_rfl) hc ?_
          refine WO_one rfl (One_load_own (d := 40) (t := 24) (x := (.tmp 4)) (.agg #[.slice a1 (List.length o1) c1]) (by kernel_rfl) rfl (show evL _ _ = some (.pointer (some ⟨b1, 0, none⟩)) from (by kernel_rfl)) st.tail.tail.head (by kernel_rfl) ?_)
          replace hr := bindS hr
          obtain ⟨y3, hx4, hr⟩ := hr
          refine WO_one rfl (One_fn 41 14 #[.agg #[.slice a1 (List.length o1) c1]] (by kernel_rfl) rfl ?_)
          refine (contents_Check_ok st r1 hx4).mono ?_
          clear st
          rintro _ w13 ⟨m8, rfl, hle5, st⟩
          refine ⟨_, rfl, ?_⟩
          have hm := Mem.le_trans hm hle5
          have r1 := r1.mono hle5
          have r5 := r5.mono hle5
          refine WO_seg 3 [(44, .bool (y3 == 2))] (by kernel_rfl) (by kernel_rfl) ?_
          rcases bcases (y3 == 2) with hc | hc
          · rw [if_pos hc] at hr
            refine WO_fact (t := 44) (b := true) (y3 == 2) (by kernel_rfl) hc ?_
            replace hr := bindS hr
            obtain ⟨y4, hx5, hr⟩ := hr
            refine WO_one rfl (One_fn 45 15 #[] (by kernel_rfl) rfl ?_)
            refine (testgatelaw13_awake_ok st hx5).mono ?_
            clear st
            rintro _ w14 ⟨m9, rfl, hle6, st⟩
            refine ⟨_, rfl, ?_⟩
            have hm := Mem.le_trans hm hle6
            have r1 := r1.mono hle6
            have r5 := r5.mono hle6
            refine WO_seg 2 [(2, .bool y4)] (by kernel_rfl) (by kernel_rfl) ?_
            obtain rfl := Option.some.inj hr
            have st := st.front3
            have st := st.front2
            have st := st.front3
            have st := st.front3
            exact WO_env _ (by kernel_rfl) (K _ _ ⟨m9, rfl, hm, st, r5, r1⟩)
          · rw [if_neg (not_true hc)] at hr
            refine WO_fact (t := 44) (b := false) (y3 == 2) (by kernel_rfl) hc ?_
            refine WO_seg 3 [(2, .bool false)] (by kernel_rfl) (by kernel_rfl) ?_
            obtain rfl := Option.some.inj hr
            have st := st.front3
            have st := st.front2
            have st := st.front3
            have st := st.front3
            exact WO_env _ (by kernel_rfl) (K _ _ ⟨m8, rfl, hm, st, r5, r1⟩)
        · rw [if_neg (not_true hc)] at hr
          refine WO_fact (t := 39) (b := false) (y2.2.2 == 2) (by kernel_rfl) hc ?_
          refine WO_seg 8 [(2, .bool false)] (by kernel_rfl) (by kernel_rfl) ?_
          obtain rfl := Option.some.inj hr
          have st := st.front3
          have st := st.front2
          have st := st.front3
          have st := st.front3
          exact WO_env _ (by kernel_rfl) (K _ _ ⟨m6, rfl, hm, st, r5, r1⟩)
    · intro hc
      rw [if_neg (not_true hc)] at hr
      refine W_seq ?_
      refine W_region ?_
      refine WO_seg 3 [(47, .bool ((IntKind.wrap .i64 (4094 + (IntKind.wrap .i64 (Int.tmod p0 4)))) == 4096))] (by kernel_rfl) (by kernel_rfl) ?_
      refine WO_end rfl ?_
      refine X_then ?_
      refine W_cond ((IntKind.wrap .i64 (4094 + (IntKind.wrap .i64 (Int.tmod p0 4)))) == 4096) (by kernel_rfl) ?_ ?_
      · intro hc
        rw [if_pos hc] at hr
        refine W_seq ?_
        refine W_region ?_
        refine WO_one rfl (One_load_own (d := 51) (t := 24) (x := (.tmp 4)) (.agg #[.slice a1 (List.length o1) c1]) (by kernel_rfl) rfl (show evL _ _ = some (.pointer (some ⟨b1, 0, none⟩)) from (by kernel_rfl)) st.tail.tail.head (by kernel_rfl) ?_)
        replace hr := bindS hr
        obtain ⟨y5, hx6, hr⟩ := hr
        refine WO_one rfl (One_fn 52 13 #[.agg #[.slice a1 (List.length o1) c1], .string (⟨#[55]⟩ : ByteArray)] (by kernel_rfl) rfl ?_)
        refine (contents_Put_ok st r1 hx6).mono ?_
        clear st
        rintro _ w15 ⟨a5, c5, m10, rfl, hle7, st, r6⟩
        refine ⟨_, rfl, ?_⟩
        have hm := Mem.le_trans hm hle7
        have r1 := r1.mono hle7
        have r5 := r5.mono hle7
        refine WO_seg 4 [(53, .agg #[.slice a5 (List.length y5.1) c5]), (54, .int .i64 y5.2.1), (55, .int .i64 y5.2.2)] (by kernel_rfl) (by kernel_rfl) ?_
        refine WO_one rfl (One_alloc (d := 9) (e := 24) (.agg #[.slice none 0 0]) (by kernel_rfl) rfl (by kernel_rfl) st ?_)
        clear st
        intro b4 w16 st
        refine WO_one rfl (One_store (t := 24) (x := (.tmp 9)) (y := (.tmp 53)) (v := .agg #[.slice a5 (List.length y5.1) c5]) (c' := #[.slice a5 (List.length y5.1) c5]) (by kernel_rfl) (show evL _ _ = some (.pointer (some ⟨b4, 0, none⟩)) from (by kernel_rfl)) (show evL _ _ = some (.agg #[.slice a5 (List.length y5.1) c5]) from (by kernel_rfl)) st (by kernel_rfl) (by kernel_rfl) ?_)
        clear st
        intro w17 st
        refine WO_seg 2 [(10, .int .i64 y5.2.1), (11, .int .i64 y5.2.2)] (by kernel_rfl) (by kernel_rfl) ?_
        refine WO_end rfl ?_
        refine X_then ?_
        refine W_seq ?_
        refine W_region ?_
        replace hr := bindS hr
        obtain ⟨o3, hr, hrK⟩ := hr
        refine WO_cut (j := 19) (fun L' w' => ∃ (m11 : Mem), L' = [(2, .bool o3)] ∧ m.le m11 ∧ St m11 (.blk b4 (.cells #[.slice a5 (List.length y5.1) c5] 24 (0, 0)) :: .blk b3 (.cells #[.slice a4 (List.length y2.1) c4] 24 (0, 0)) :: .blk b1 (.cells #[.slice a1 (List.length o1) c1] 24 (0, 0)) :: .room a5 (List.length y5.1) c5 9 1 :: .room a4 (List.length y2.1) c4 9 1 :: .room a1 (List.length o1) c1 9 1 :: own) w' ∧ RepS cStr m11 a5 c5 y5.1 ∧ RepS cStr m11 a4 c4 y2.1 ∧ RepS cStr m11 a1 c1 o1) ?_ ?_
        · clear hr st
          have hr := hrK
          clear hrK
          rintro _ w18 ⟨m11, rfl, hm, st, r6, r5, r1⟩
          refine WO_end rfl ?_
          refine X_then ?_
          refine W_ret ?_
          refine X_block_ret ?_
          refine X_then_ret ?_
          obtain rfl := Option.some.inj hr
          refine X_ret [.tmp 2] [.bool o3] rfl (ResAll.cons (ResAt.tmp (by kernel_rfl)) ResAll.nil) ?_
          have st := st.tail
          have st := st.tail
          have st := st.tail
          have st := st.tail
          have st := st.tail
          have st := st.tail
          exact ⟨m11, rfl, hm, st⟩
        · intro K
          clear hrK
          refine WO_seg 3 [(58, .bool (y2.2.2 == 2))] (by kernel_rfl) (by kernel_rfl) ?_
          rcases bcases (y2.2.2 == 2) with hc | hc
          · rw [if_pos hc] at hr
            refine WO_fact (t := 58) (b := true) (y2.2.2 == 2) (by kernel_rfl) hc ?_
            refine WO_seg 4 [(62, .bool (y5.2.2 == 0))] (by kernel_rfl) (by kernel_rfl) ?_
            rcases bcases (y5.2.2 == 0) with hc | hc
            · rw [if_pos hc] at hr
              refine WO_fact (t := 62) (b := true) (y5.2.2 == 0) (by kernel_rfl) hc ?_
              refine WO_seg 4 [(66, .bool (y5.2.1 == 7))] (by kernel_rfl) (by kernel_rfl) ?_
              rcases bcases (y5.2.1 == 7) with hc | hc
              · rw [if_pos hc] at hr
                refine WO_fact (t := 66) (b := true) (y5.2.1 == 7) (by kernel_rfl) hc ?_
                refine WO_one rfl (One_load_own (d := 67) (t := 24) (x := (.tmp 4)) (.agg #[.slice a1 (List.length o1) c1]) (by kernel_rfl) rfl (show evL _ _ = some (.pointer (some ⟨b1, 0, none⟩)) from (by kernel_rfl)) st.tail.tail.tail.tail.head (by kernel_rfl) ?_)
                replace hr := bindS hr
                obtain ⟨y6, hx7, hr⟩ := hr
                refine WO_one rfl (One_fn 68 14 #[.agg #[.slice a1 (List.length o1) c1]] (by kernel_rfl) rfl ?_)
                refine (contents_Check_ok st r1 hx7).mono ?_
                clear st
                rintro _ w19 ⟨m12, rfl, hle8, st⟩
                refine ⟨_, rfl, ?_⟩
                have hm := Mem.le_trans hm hle8
                have r1 := r1.mono hle8
                have r6 := r6.mono hle8
                have r5 := r5.mono hle8
                refine WO_seg 3 [(71, .bool (y6 == 0))] (by kernel_rfl) (by kernel_rfl) ?_
                rcases bcases (y6 == 0) with hc | hc
                · rw [if_pos hc] at hr
                  refine WO_fact (t := 71) (b := true) (y6 == 0) (by kernel_rfl) hc ?_
                  replace hr := bindS hr
                  obtain ⟨y7, hx8, hr⟩ := hr
                  refine WO_one rfl (One_fn 72 15 #[] (by kernel_rfl) rfl ?_)
                  refine (testgatelaw13_awake_ok st hx8).mono ?_
                  clear st
                  rintro _ w20 ⟨m13, rfl, hle9, st⟩
                  refine ⟨_, rfl, ?_⟩
                  have hm := Mem.le_trans hm hle9
                  have r1 := r1.mono hle9
                  have r6 := r6.mono hle9
                  have r5 := r5.mono hle9
                  refine WO_seg 2 [(2, .bool y7)] (by kernel_rfl) (by kernel_rfl) ?_
                  obtain rfl := Option.some.inj hr
                  have st := st.front5
                  have st := st.front4
                  have st := st.front3
                  have st := st.front5
                  have st := st.front5
                  have st := st.front5
                  exact WO_env _ (by kernel_rfl) (K _ _ ⟨m13, rfl, hm, st, r6, r5, r1⟩)
                · rw [if_neg (not_true hc)] at hr
                  refine WO_fact (t := 71) (b := false) (y6 == 0) (by kernel_rfl) hc ?_
                  refine WO_seg 3 [(2, .bool false)] (by kernel_rfl) (by kernel_rfl) ?_
                  obtain rfl := Option.some.inj hr
                  have st := st.front5
                  have st := st.front4
                  have st := st.front3
                  have st := st.front5
                  have st := st.front5
                  have st := st.front5
                  exact WO_env _ (by kernel_rfl) (K _ _ ⟨m12, rfl, hm, st, r6, r5, r1⟩)
              · rw [if_neg (not_true hc)] at hr
                refine WO_fact (t := 66) (b := false) (y5.2.1 == 7) (by kernel_rfl) hc ?_
                refine WO_seg 8 [(2, .bool false)] (by kernel_rfl) (by kernel_rfl) ?_
                obtain rfl := Option.some.inj hr
                have st := st.front5
                have st := st.front4
                have st := st.front3
                have st := st.front5
                have st := st.front5
                have st := st.front5
                exact WO_env _ (by kernel_rfl) (K _ _ ⟨m10, rfl, hm, st, r6, r5, r1⟩)
            · rw [if_neg (not_true hc)] at hr
              refine WO_fact (t := 62) (b := false) (y5.2.2 == 0) (by kernel_rfl) hc ?_
              refine WO_seg 12 [(2, .bool false)] (by kernel_rfl) (by kernel_rfl) ?_
              obtain rfl := Option.some.inj hr
              have st := st.front5
              have st := st.front4
              have st := st.front3
              have st := st.front5
              have st := st.front5
              have st := st.front5
              exact WO_env _ (by kernel_rfl) (K _ _ ⟨m10, rfl, hm, st, r6, r5, r1⟩)
          · rw [if_neg (not_true hc)] at hr
            refine WO_fact (t := 58) (b := false) (y2.2.2 == 2) (by kernel_rfl) hc ?_
            refine WO_seg 16 [(2, .bool false)] (by kernel_rfl) (by kernel_rfl) ?_
            obtain rfl := Option.some.inj hr
            have st := st.front5
            have st := st.front4
            have st := st.front3
            have st := st.front5
            have st := st.front5
            have st := st.front5
            exact WO_env _ (by kernel_rfl) (K _ _ ⟨m10, rfl, hm, st, r6, r5, r1⟩)
      · intro hc
        rw [if_neg (not_true hc)] at hr
        refine W_skip ?_
        refine X_block ?_
        refine X_then ?_
        refine W_seq ?_
        refine W_region ?_
        replace hr := bindS hr
        obtain ⟨o4, hr, hrK⟩ := hr
        refine WO_cut (j := 19) (fun L' w' => ∃ (m14 : Mem), L' = [(2, .bool o4)] ∧ m.le m14 ∧ St m14 (.blk b3 (.cells #[.slice a4 (List.length y2.1) c4] 24 (0, 0)) :: .blk b1 (.cells #[.slice a1 (List.length o1) c1] 24 (0, 0)) :: .room a4 (List.length y2.1) c4 9 1 :: .room a1 (List.length o1) c1 9 1 :: own) w' ∧ RepS cStr m14 a4 c4 y2.1 ∧ RepS cStr m14 a1 c1 o1) ?_ ?_
        · clear hr st
          have hr := hrK
          clear hrK
          rintro _ w21 ⟨m14, rfl, hm, st, r5, r1⟩
          refine WO_end rfl ?_
          refine X_then ?_
          refine W_ret ?_
          obtain rfl := Option.some.inj hr
          refine X_ret [.tmp 2] [.bool o4] rfl (ResAll.cons (ResAt.tmp (by kernel_rfl)) ResAll.nil) ?_
          have st := st.tail
          have st := st.tail
          have st := st.tail
          have st := st.tail
          exact ⟨m14, rfl, hm, st⟩
        · intro K
          clear hrK
          refine WO_seg 3 [(76, .bool (y2.2.2 == 0))] (by kernel_rfl) (by kernel_rfl) ?_
          rcases bcases (y2.2.2 == 0) with hc | hc
          · rw [if_pos hc] at hr
            refine WO_fact (t := 76) (b := true) (y2.2.2 == 0) (by kernel_rfl) hc ?_
            refine WO_seg 5 [(81, .bool (y2.2.1 == (IntKind.wrap .i64 (4094 + (IntKind.wrap .i64 (Int.tmod p0 4))))))] (by kernel_rfl) (by kernel_rfl) ?_
            rcases bcases (y2.2.1 == (IntKind.wrap .i64 (4094 + (IntKind.wrap .i64 (Int.tmod p0 4))))) with hc | hc
            · rw [if_pos hc] at hr
              refine WO_fact (t := 81) (b := true) (y2.2.1 == (IntKind.wrap .i64 (4094 + (IntKind.wrap .i64 (Int.tmod p0 4))))) (by kernel_rfl) hc ?_
              refine WO_seg 1 [(82, .pointer (some ⟨b3, 0, none⟩))] (by kernel_rfl) (by kernel_rfl) ?_
              refine WO_one rfl (One_load_own (d := 83) (t := 22) (x := (.tmp 82)) (.slice a4 (List.length y2.1) c4) (by kernel_rfl) rfl (show evL _ _ = some (.pointer (some ⟨b3, 0, none⟩)) from (by kernel_rfl)) st.head (by kernel_rfl) ?_)
              refine WO_seg 6 [(89, .bool ((List.length y2.1 : Int) == (IntKind.wrap .i64 ((IntKind.wrap .i64 (4094 + (IntKind.wrap .i64 (Int.tmod p0 4)))) + 1))))] (by kernel_rfl) (by kernel_rfl) ?_
              rcases bcases ((List.length y2.1 : Int) == (IntKind.wrap .i64 ((IntKind.wrap .i64 (4094 + (IntKind.wrap .i64 (Int.tmod p0 4)))) + 1))) with hc | hc
              · rw [if_pos hc] at hr
                refine WO_fact (t := 89) (b := true) ((List.length y2.1 : Int) == (IntKind.wrap .i64 ((IntKind.wrap .i64 (4094 + (IntKind.wrap .i64 (Int.tmod p0 4)))) + 1))) (by kernel_rfl) hc ?_
                replace hr := bindS hr
                obtain ⟨y8, hx9, hr⟩ := hr
                refine WO_one rfl (One_fn 90 15 #[] (by kernel_rfl) rfl ?_)
                refine (testgatelaw13_awake_ok st hx9).mono ?_
                clear st
                rintro _ w22 ⟨m15, rfl, hle10, st⟩
                refine ⟨_, rfl, ?_⟩
                have hm := Mem.le_trans hm hle10
                have r5 := r5.mono hle10
                have r1 := r1.mono hle10
                refine WO_seg 2 [(2, .bool y8)] (by kernel_rfl) (by kernel_rfl) ?_
                obtain rfl := Option.some.inj hr
                have st := st.front3
                have st := st.front2
                have st := st.front3
                have st := st.front3
                exact WO_env _ (by kernel_rfl) (K _ _ ⟨m15, rfl, hm, st, r5, r1⟩)
              · rw [if_neg (not_true hc)] at hr
                refine WO_fact (t := 89) (b := false) ((List.length y2.1 : Int) == (IntKind.wrap .i64 ((IntKind.wrap .i64 (4094 + (IntKind.wrap .i64 (Int.tmod p0 4)))) + 1))) (by kernel_rfl) hc ?_
                refine WO_seg 3 [(2, .bool false)] (by kernel_rfl) (by kernel_rfl) ?_
                obtain rfl := Option.some.inj hr
                have st := st.front3
                have st := st.front2
                have st := st.front3
                have st := st.front3
                exact WO_env _ (by kernel_rfl) (K _ _ ⟨m6, rfl, hm, st, r5, r1⟩)
            · rw [if_neg (not_true hc)] at hr
              refine WO_fact (t := 81) (b := false) (y2.2.1 == (IntKind.wrap .i64 (4094 + (IntKind.wrap .i64 (Int.tmod p0 4))))) (by kernel_rfl) hc ?_
              refine WO_seg 11 [(2, .bool false)] (by kernel_rfl) (by kernel_rfl) ?_
              obtain rfl := Option.some.inj hr
              have st := st.front3
              have st := st.front2
              have st := st.front3
              have st := st.front3
              exact WO_env _ (by kernel_rfl) (K _ _ ⟨m6, rfl, hm, st, r5, r1⟩)
          · rw [if_neg (not_true hc)] at hr
            refine WO_fact (t := 76) (b := false) (y2.2.2 == 0) (by kernel_rfl) hc ?_
            refine WO_seg 16 [(2, .bool false)] (by kernel_rfl) (by kernel_rfl) ?_
            obtain rfl := Option.some.inj hr
            have st := st.front3
            have st := st.front2
            have st := st.front3
            have st := st.front3
            exact WO_env _ (by kernel_rfl) (K _ _ ⟨m6, rfl, hm, st, r5, r1⟩)
  intro K0_u1
  clear hrKu1
  have st := st.nilroom 9 1
  have st := st.front1
  refine W_env _ (by kernel_rfl) (W_loop (fun k1 L' w' => ∃ (s1 : Int × List (ByteArray)) (a2 : Option Addr) (c2 : Nat) (m2 : Mem), loopM (testgatelaw13_ContentsFull_L1 N p0) k1 s1 = some out1 ∧ L' = [(3, .int .i64 (IntKind.wrap .i64 (4094 + (IntKind.wrap .i64 (Int.tmod p0 4))))), (4, .pointer (some ⟨b1, 0, none⟩)), (5, .int .i64 s1.1)] ∧ m.le m2 ∧ St m2 (.blk b1 (.cells #[.slice a2 (List.length s1.2) c2] 24 (0, 0)) :: .room a2 (List.length s1.2) c2 9 1 :: own) w' ∧ RepS cStr m2 a2 c2 s1.2) N ⟨(0, ([] : List (ByteArray))), none, 0, m, hr, rfl, hm, st, (RepS.nil _ _)⟩ ?_)
  clear st hr
  rintro k1 _ w3 ⟨s1, a2, c2, m2, hL, rfl, hm, st, r2⟩
  rcases k1 with _ | k1
  · exact loopM_zero hL
  · obtain ⟨qu1, hr, hSu1, hBu1⟩ := loopM_succ hL
    clear hL
    unfold testgatelaw13_ContentsFull_L1 at hr
    refine W_seq ?_
    refine W_seq ?_
    refine W_region ?_
    refine WO_seg 3 [(18, .bool (decide (s1.1 < (IntKind.wrap .i64 (4094 + (IntKind.wrap .i64 (Int.tmod p0 4)))))))] (by kernel_rfl) (by kernel_rfl) ?_
    refine WO_end rfl ?_
    refine X_then ?_
    refine W_cond (decide (s1.1 < (IntKind.wrap .i64 (4094 + (IntKind.wrap .i64 (Int.tmod p0 4)))))) (by kernel_rfl) ?_ ?_
    · intro hc
      rw [if_pos hc] at hr
      refine W_skip ?_
      refine X_then ?_
      refine W_seq ?_
      refine W_block ?_
      refine W_draw [(8, fun w' => Inv m2 w' ∧ True), (7, fun w' => Inv m2 w' ∧ Piece.holds m2 w' (.blk b1 (.cells #[.slice a2 (List.length s1.2) c2] 24 (0, 0))) ∧ True)] (by kernel_rfl) st ?_
      clear st
      intro w4 _ st
      have hmS := m2.le_refl
      refine ⟨⟨.inr ⟨Inv.anti st.inv hmS, trivial⟩, ⟨.inr ⟨Inv.anti st.inv hmS, Piece.holds_anti st.head hmS, trivial⟩, trivial⟩⟩, ?_⟩
      refine WA_pure 0 21 (.pointer (some ⟨b1, 0, none⟩)) (by kernel_rfl) rfl (by kernel_rfl) (.head _) (QP_block (QP_then (QP_then (QP_block (QP_then QP_body))))) ?_
      refine WA_load_own (t := 22) (x := (.tmp 21)) 1 22 (.slice a2 (List.length s1.2) c2) (by kernel_rfl) rfl (by kernel_rfl) (.tail _ (.head _)) (QP_block (QP_then (QP_then (QP_block (QP_then QP_body))))) (fun _ h => h.2.1) (show evL _ _ = some (.pointer (some ⟨b1, 0, none⟩)) from (by kernel_rfl)) (by kernel_rfl) ?_
      refine WA_pure 2 23 (.int .i64 s1.1) (by kernel_rfl) rfl (by kernel_rfl) (.head _) (QP_block (QP_then (QP_then (QP_block (QP_then QP_body))))) ?_
      replace hr := bindS hr
      obtain ⟨y1, hx1, hr⟩ := hr
      refine WA_one 3 (by kernel_rfl) (One_fn 24 12 #[.int .i64 s1.1] (by kernel_rfl) rfl ?_)
      refine (testgatemake_Digits_ok st hx1).mono ?_
      clear st
      rintro _ w5 ⟨m3, rfl, hle1, st⟩
      refine ⟨_, rfl, ?_⟩
      have hm := Mem.le_trans hm hle1
      have r2 := r2.mono hle1
      have hmS := Mem.le_trans hmS hle1
      refine ⟨⟨.inr ⟨Inv.anti st.inv hmS, trivial⟩, ⟨.inr ⟨Inv.anti st.inv hmS, Piece.holds_anti st.head hmS, trivial⟩, trivial⟩⟩, ?_⟩
      refine WA_one 4 (by kernel_rfl) (One_buildSlice (d := 25) (t := 22) (e := 9) (len := 1) (parts := #[(0, (.tmp 24))]) cStr (xs := [y1]) [.string y1] (by kernel_rfl) rfl (fun _ => buildCells_run (by kernel_rfl) _) rfl rfl st ⟨[.string y1], _, rfl, rfl, rfl⟩ ?_)
      clear st
      intro b2 m4 w6 hle2 st r3
      have hm := Mem.le_trans hm hle2
      have r2 := r2.mono hle2
      have hmS := Mem.le_trans hmS hle2
      refine ⟨⟨.inr ⟨Inv.anti st.inv hmS, trivial⟩, ⟨.inr ⟨Inv.anti st.inv hmS, Piece.holds_anti st.tail.head hmS, trivial⟩, trivial⟩⟩, ?_⟩
      have st := st.front2
      replace hr := bindS hr
      obtain ⟨l1, hx2, hr⟩ := hr
      refine WA_one 5 (by kernel_rfl) (One_append (d := 26) (t := 22) (u := 22) (e := 9) (by_ := 16) (x := (.tmp 22)) (y := (.tmp 25)) cStr (by kernel_rfl) rfl (show evL _ _ = some (.slice a2 (List.length s1.2) c2) from (by kernel_rfl)) (show evL _ _ = some (.slice (some ⟨b2, 0, none⟩) (List.length ([y1])) 1) from (by kernel_rfl)) st (by kernel_rfl) (.inl (by kernel_rfl)) r2 r3.src hx2 ?_)
      clear st
      intro a3 c3 m5 w7 hle3 st r4
      have hm := Mem.le_trans hm hle3
      have r2 := r2.mono hle3
      have r3 := r3.mono hle3
      have hmS := Mem.le_trans hmS hle3
      refine ⟨⟨.inr ⟨Inv.anti st.inv hmS, trivial⟩, ⟨.inr ⟨Inv.anti st.inv hmS, Piece.holds_anti st.tail.tail.head hmS, trivial⟩, trivial⟩⟩, ?_⟩
      refine WA_pure 6 27 (.pointer (some ⟨b1, 0, none⟩)) (by kernel_rfl) rfl (by kernel_rfl) (.head _) (QP_block (QP_then (QP_then (QP_block (QP_then QP_body))))) ?_
      have st := st.front2
      refine WA_one 7 (by kernel_rfl) (One_store (t := 22) (x := (.tmp 27)) (y := (.tmp 26)) (v := .slice a3 (List.length l1) c3) (c' := #[.slice a3 (List.length l1) c3]) (by kernel_rfl) (show evL _ _ = some (.pointer (some ⟨b1, 0, none⟩)) from (by kernel_rfl)) (show evL _ _ = some (.slice a3 (List.length l1) c3) from (by kernel_rfl)) st (by kernel_rfl) (by kernel_rfl) ?_)
      clear st
      intro w8 st
      refine ⟨⟨.inr ⟨Inv.anti st.inv hmS, trivial⟩, ⟨.inl rfl, trivial⟩⟩, ?_⟩
      refine WA_done (by kernel_rfl) ?_
      have st := st.front2
      have st := st.tail
      refine X_block ?_
      refine X_then ?_
      refine W_region ?_
      refine WO_seg 3 [(5, .int .i64 (IntKind.wrap .i64 (s1.1 + 1)))] (by kernel_rfl) (by kernel_rfl) ?_
      refine WO_end rfl ?_
      obtain rfl := Option.some.inj hr
      have hL := hSu1 _ rfl
      have st := st.front1
      have st := st.front1
      exact X_env _ (by kernel_rfl) (X_round k1 (Nat.lt_succ_self _) ⟨(IntKind.wrap .i64 (s1.1 + 1), l1), a3, c3, m5, hL, rfl, hm, st, r4⟩)
    · intro hc
      rw [if_neg (not_true hc)] at hr
      refine W_exit ?_
      refine X_then_exit ?_
      obtain rfl := Option.some.inj hr
      have ho := hBu1 _ rfl
      have st := st.front1
      have st := st.front1
      refine X_then_exit ?_
      exact X_env _ (by kernel_rfl) (K0_u1 _ _ ⟨s1.2, a2, c2, m2, ho, rfl, hm, st, r2⟩)

def testgatemake_Fold (N : Nat) (p0 : Int) (p1 : Int) : Option (Int) :=
  if (decide (p1 ≤ 1)) = true then (some 0) else ((remS p0 p1).bind fun i1 => (if (decide (i1 < 0)) = true then (some (IntKind.wrap .i64 (i1 + p1))) else (some i1) : Option (Int)).bind fun o1 => some o1)

set_option maxHeartbeats 4000000 in
set_option maxRecDepth 100000 in
theorem testgatemake_Fold_ok {N : Nat} {m : Mem} {own : List Piece} {w : World} {p0 : Int} {p1 : Int} {r : Int} (st : St m (own) w) (hr : testgatemake_Fold N p0 p1 = some r) : Calls Go.Proofs.Try.prog 42 #[.int .i64 p0, .int .i64 p1] w fun e w' => ∃ (m' : Mem), e = .returned (.int .i64 r) ∧ m.le m' ∧ St m' (own) w' := by
  unfold testgatemake_Fold at hr
  have hm := m.le_refl
  refine W_calls Go.Proofs.Try.func42 rfl Go.Proofs.Try.ntmps42 [(0, .int .i64 p0), (1, .int .i64 p1)] (by kernel_rfl) rfl ?_
  refine W_seq ?_
  refine W_region ?_
  refine WO_seg 1 [] (by kernel_rfl) (by kernel_rfl) ?_
  refine WO_end rfl ?_
  refine X_then ?_
  refine W_seq ?_
  refine W_seq ?_
  refine W_region ?_
  refine WO_seg 2 [(6, .bool (decide (p1 ≤ 1)))] (by kernel_rfl) (by kernel_rfl) ?_
  refine WO_end rfl ?_
  refine X_then ?_
  refine W_cond (decide (p1 ≤ 1)) (by kernel_rfl) ?_ ?_
  · intro hc
    rw [if_pos hc] at hr
    refine W_seq ?_
    refine W_region ?_
    refine WO_seg 1 [(4, .int .i64 0)] (by kernel_rfl) (by kernel_rfl) ?_
    refine WO_end rfl ?_
    refine X_then ?_
    refine W_ret ?_
    refine X_then_ret ?_
    obtain rfl := Option.some.inj hr
    refine X_ret [.tmp 4] [.int .i64 0] rfl (ResAll.cons (ResAt.tmp (by kernel_rfl)) ResAll.nil) ?_
    exact ⟨m, rfl, hm, st⟩
  · intro hc
    rw [if_neg (not_true hc)] at hr
    refine W_skip ?_
    refine X_then ?_
    refine W_seq ?_
    refine W_region ?_
    refine WO_seg 2 [(7, .int .i64 p0), (8, .int .i64 p1)] (by kernel_rfl) (by kernel_rfl) ?_
    replace hr := bindS hr
    obtain ⟨i1, hx1, hr⟩ := hr
    refine WO_one rfl (One_rem (d := 9) (t := 3) (t2 := 3) (x := (.tmp 7)) (y := (.tmp 8)) (by kernel_rfl) rfl (show evL _ _ = some (.int .i64 p0) from (by kernel_rfl)) (show evL _ _ = some (.int .i64 p1) from (by kernel_rfl)) hx1 ?_)
    refine WO_seg 1 [(0, .int .i64 i1)] (by kernel_rfl) (by kernel_rfl) ?_
    refine WO_end rfl ?_
    refine X_then ?_
    refine W_seq ?_
    refine W_seq ?_
    refine W_region ?_
    refine WO_seg 2 [(11, .bool (decide (i1 < 0)))] (by kernel_rfl) (by kernel_rfl) ?_
    refine WO_end rfl ?_
    refine X_then ?_
    replace hr := bindS hr
    obtain ⟨o1, hr, hrKu1⟩ := hr
    refine W_cut .normal (fun L' w' => ∃ (m1 : Mem), L' = [(0, .int .i64 o1)] ∧ m.le m1 ∧ St m1 (own) w') ?_ ?_
    · clear hr st
      have hr := hrKu1
      clear hrKu1
      rintro _ w1 ⟨m1, rfl, hm, st⟩
      refine X_then ?_
      refine W_seq ?_
      refine W_region ?_
      refine WO_seg 2 [(4, .int .i64 o1)] (by kernel_rfl) (by kernel_rfl) ?_
      refine WO_end rfl ?_
      refine X_then ?_
      refine W_ret ?_
      obtain rfl := Option.some.inj hr
      refine X_ret [.tmp 4] [.int .i64 o1] rfl (ResAll.cons (ResAt.tmp (by kernel_rfl)) ResAll.nil) ?_
      exact ⟨m1, rfl, hm, st⟩
    · intro Ku1
      clear hrKu1
      refine W_cond (decide (i1 < 0)) (by kernel_rfl) ?_ ?_
      · intro hc
        rw [if_pos hc] at hr
        refine W_region ?_
        refine WO_seg 4 [(0, .int .i64 (IntKind.wrap .i64 (i1 + p1)))] (by kernel_rfl) (by kernel_rfl) ?_
        refine WO_end rfl ?_
        obtain rfl := Option.some.inj hr
        exact X_env _ (by kernel_rfl) (Ku1 _ _ ⟨m, rfl, hm, st⟩)
      · intro hc
        rw [if_neg (not_true hc)] at hr
        refine W_skip ?_
        obtain rfl := Option.some.inj hr
        exact X_env _ (by kernel_rfl) (Ku1 _ _ ⟨m, rfl, hm, st⟩)

def testgatemake_Tape_Next (N : Nat) (p0 : List Int × Int) (p1 : Int) : Option ((List Int × Int) × Int) :=
  (if (decide (p0.2 < (List.length p0.1 : Int))) = true then ((idx p0.1 p0.2).bind fun x1 => some x1) else (some (Int.tmod (IntKind.wrap .i64 (p0.2 * 7)) 11)) : Option (Int)).bind fun o1 => (testgatemake_Fold N o1 p1).bind fun y1 => some ((p0.1, IntKind.wrap .i64 (p0.2 + 1)), y1)

set_option maxHeartbeats 4000000 in
set_option maxRecDepth 100000 in
theorem testgatemake_Tape_Next_ok {N : Nat} {m : Mem} {own : List Piece} {w : World} {p0 : List Int × Int} {p1 : Int} {bp0 : Nat} {a1 : Option Addr} {c1 : Nat} {r : (List Int × Int) × Int} (st : St m (.blk bp0 (.cells #[.slice a1 (List.length p0.1) c1, .int .i64 p0.2] 35 (0, 0)) :: own) w) (r1 : RepS (cInt .i64) m a1 c1 p0.1) (hr : testgatemake_Tape_Next N p0 p1 = some r) : Calls Go.Proofs.Try.prog 25 #[.pointer (some ⟨bp0, 0, none⟩), .int .i64 p1] w fun e w' => ∃ (ra1 : Option Addr) (rc1 : Nat) (m' : Mem), e = .returned (.int .i64 r.2) ∧ m.le m' ∧ St m' (.blk bp0 (.cells #[.slice ra1 (List.length r.1.1) rc1, .int .i64 r.1.2] 35 (0, 0)) :: own) w' ∧ RepS (cInt .i64) m' ra1 rc1 r.1.1 := by
  unfold testgatemake_Tape_Next at hr
  have hm := m.le_refl
  refine W_calls Go.Proofs.Try.func25 rfl Go.Proofs.Try.ntmps25 [(0, .pointer (some ⟨bp0, 0, none⟩)), (1, .int .i64 p1)] (by kernel_rfl) rfl ?_
  refine W_seq ?_
  refine W_region ?_
  refine WO_seg 1 [] (by kernel_rfl) (by kernel_rfl) ?_
  refine WO_end rfl ?_
  refine X_then ?_
  refine W_seq ?_
  refine W_region ?_
  refine WO_seg 3 [(8, .pointer (some ⟨bp0, 1, none⟩))] (by kernel_rfl) (by kernel_rfl) ?_
  refine WO_one rfl (One_load_own (d := 9) (t := 3) (x := (.tmp 8)) (.int .i64 p0.2) (by kernel_rfl) rfl (show evL _ _ = some (.pointer (some ⟨bp0, 1, none⟩)) from (by kernel_rfl)) st.head (by kernel_rfl) ?_)
  refine WO_seg 3 [(5, .int .i64 (Int.tmod (IntKind.wrap .i64 (p0.2 * 7)) 11))] (by kernel_rfl) (by kernel_rfl) ?_
  refine WO_end rfl ?_
  refine X_then ?_
  refine W_seq ?_
  refine W_seq ?_
  refine W_draw [(10, fun w' => Inv m w' ∧ Piece.holds m w' (.blk bp0 (.cells #[.slice a1 (List.length p0.1) c1, .int .i64 p0.2] 35 (0, 0))) ∧ True)] (by kernel_rfl) st ?_
  clear st
  intro w1 _ st
  have hmS := m.le_refl
  refine ⟨⟨.inr ⟨Inv.anti st.inv hmS, Piece.holds_anti st.head hmS, trivial⟩, trivial⟩, ?_⟩
  refine WA_pure 0 12 (.pointer (some ⟨bp0, 0, none⟩)) (by kernel_rfl) rfl (by kernel_rfl) (.head _) (QP_then (QP_then QP_body)) ?_
  refine WA_pure 1 13 (.pointer (some ⟨bp0, 0, none⟩)) (by kernel_rfl) rfl (by kernel_rfl) (.head _) (QP_then (QP_then QP_body)) ?_
  refine WA_pure 2 14 (.pointer (some ⟨bp0, 1, none⟩)) (by kernel_rfl) rfl (by kernel_rfl) (.head _) (QP_then (QP_then QP_body)) ?_
  refine WA_load_own (t := 3) (x := (.tmp 14)) 3 15 (.int .i64 p0.2) (by kernel_rfl) rfl (by kernel_rfl) (.head _) (QP_then (QP_then QP_body)) (fun _ h => h.2.1) (show evL _ _ = some (.pointer (some ⟨bp0, 1, none⟩)) from (by kernel_rfl)) (by kernel_rfl) ?_
  refine WA_pure 4 16 (.pointer (some ⟨bp0, 0, none⟩)) (by kernel_rfl) rfl (by kernel_rfl) (.head _) (QP_then (QP_then QP_body)) ?_
  refine WA_pure 5 17 (.pointer (some ⟨bp0, 0, none⟩)) (by kernel_rfl) rfl (by kernel_rfl) (.head _) (QP_then (QP_then QP_body)) ?_
  refine WA_pure 6 18 (.pointer (some ⟨bp0, 0, none⟩)) (by kernel_rfl) rfl (by kernel_rfl) (.head _) (QP_then (QP_then QP_body)) ?_
  refine WA_load_own (t := 32) (x := (.tmp 18)) 7 19 (.slice a1 (List.length p0.1) c1) (by kernel_rfl) rfl (by kernel_rfl) (.head _) (QP_then (QP_then QP_body)) (fun _ h => h.2.1) (show evL _ _ = some (.pointer (some ⟨bp0, 0, none⟩)) from (by kernel_rfl)) (by kernel_rfl) ?_
  refine WA_pure 8 20 (.int .i64 (List.length p0.1 : Int)) (by kernel_rfl) rfl (by kernel_rfl) (.head _) (QP_then (QP_then QP_body)) ?_
  refine WA_pure 9 21 (.bool (decide (p0.2 < (List.length p0.1 : Int)))) (by kernel_rfl) rfl (by kernel_rfl) (.head _) (QP_then (QP_then QP_body)) ?_
  refine WA_done (by kernel_rfl) ?_
  refine X_then ?_
  replace hr := bindS hr
  obtain ⟨o1, hr, hrKu1⟩ := hr
  refine W_cut .normal (fun L' w' => ∃ (m1 : Mem), L' = [(0, .pointer (some ⟨bp0, 0, none⟩)), (1, .int .i64 p1), (5, .int .i64 o1)] ∧ m.le m1 ∧ St m1 (.blk bp0 (.cells #[.slice a1 (List.length p0.1) c1, .int .i64 p0.2] 35 (0, 0)) :: own) w' ∧ RepS (cInt .i64) m1 a1 c1 p0.1) ?_ ?_
  · clear hr st
    have hr := hrKu1
    clear hrKu1
    rintro _ w2 ⟨m1, rfl, hm, st, r1⟩
    refine X_then ?_
    refine W_seq ?_
    refine W_region ?_
    refine WO_seg 3 [(32, .pointer (some ⟨bp0, 0, none⟩)), (34, .pointer (some ⟨bp0, 1, none⟩))] (by kernel_rfl) (by kernel_rfl) ?_
    refine WO_one rfl (One_load_own (d := 35) (t := 3) (x := (.tmp 34)) (.int .i64 p0.2) (by kernel_rfl) rfl (show evL _ _ = some (.pointer (some ⟨bp0, 1, none⟩)) from (by kernel_rfl)) st.head (by kernel_rfl) ?_)
    refine WO_seg 3 [(36, .int .i64 (IntKind.wrap .i64 (p0.2 + 1))), (38, .pointer (some ⟨bp0, 1, none⟩))] (by kernel_rfl) (by kernel_rfl) ?_
    refine WO_one rfl (One_store (t := 3) (x := (.tmp 38)) (y := (.tmp 36)) (v := .int .i64 (IntKind.wrap .i64 (p0.2 + 1))) (c' := #[.slice a1 (List.length p0.1) c1, .int .i64 (IntKind.wrap .i64 (p0.2 + 1))]) (by kernel_rfl) (show evL _ _ = some (.pointer (some ⟨bp0, 1, none⟩)) from (by kernel_rfl)) (show evL _ _ = some (.int .i64 (IntKind.wrap .i64 (p0.2 + 1))) from (by kernel_rfl)) st (by kernel_rfl) (by kernel_rfl) ?_)
    clear st
    intro w4 st
    refine WO_end rfl ?_
    refine X_then ?_
    refine W_seq ?_
    refine W_region ?_
    refine WO_seg 2 [(39, .int .i64 o1), (40, .int .i64 p1)] (by kernel_rfl) (by kernel_rfl) ?_
    replace hr := bindS hr
    obtain ⟨y1, hx2, hr⟩ := hr
    refine WO_one rfl (One_fn 41 42 #[.int .i64 o1, .int .i64 p1] (by kernel_rfl) rfl ?_)
    refine (testgatemake_Fold_ok st hx2).mono ?_
    clear st
    rintro _ w5 ⟨m2, rfl, hle1, st⟩
    refine ⟨_, rfl, ?_⟩
    have hm := Mem.le_trans hm hle1
    have r1 := r1.mono hle1
    refine WO_seg 1 [(4, .int .i64 y1)] (by kernel_rfl) (by kernel_rfl) ?_
    refine WO_end rfl ?_
    refine X_then ?_
    refine W_ret ?_
    obtain rfl := Option.some.inj hr
    refine X_ret [.tmp 4] [.int .i64 y1] rfl (ResAll.cons (ResAt.tmp (by kernel_rfl)) ResAll.nil) ?_
    exact ⟨a1, c1, m2, rfl, hm, st, r1⟩
  · intro Ku1
    clear hrKu1
    refine W_cond (decide (p0.2 < (List.length p0.1 : Int))) (by kernel_rfl) ?_ ?_
    · intro hc
      rw [if_pos hc] at hr
      refine W_draw [(11, fun w' => Inv m w' ∧ Piece.holds m w' (.blk bp0 (.cells #[.slice a1 (List.length p0.1) c1, .int .i64 p0.2] 35 (0, 0))) ∧ True)] (by kernel_rfl) st ?_
      clear st
      intro w3 _ st
      have hmS := m.le_refl
      refine ⟨⟨.inr ⟨Inv.anti st.inv hmS, Piece.holds_anti st.head hmS, trivial⟩, trivial⟩, ?_⟩
      refine WA_pure 0 22 (.pointer (some ⟨bp0, 0, none⟩)) (by kernel_rfl) rfl (by kernel_rfl) (.head _) (QP_then QP_body) ?_
      refine WA_pure 1 23 (.pointer (some ⟨bp0, 0, none⟩)) (by kernel_rfl) rfl (by kernel_rfl) (.head _) (QP_then QP_body) ?_
      refine WA_pure 2 24 (.pointer (some ⟨bp0, 0, none⟩)) (by kernel_rfl) rfl (by kernel_rfl) (.head _) (QP_then QP_body) ?_
      refine WA_load_own (t := 32) (x := (.tmp 24)) 3 25 (.slice a1 (List.length p0.1) c1) (by kernel_rfl) rfl (by kernel_rfl) (.head _) (QP_then QP_body) (fun _ h => h.2.1) (show evL _ _ = some (.pointer (some ⟨bp0, 0, none⟩)) from (by kernel_rfl)) (by kernel_rfl) ?_
      refine WA_pure 4 26 (.pointer (some ⟨bp0, 0, none⟩)) (by kernel_rfl) rfl (by kernel_rfl) (.head _) (QP_then QP_body) ?_
      refine WA_pure 5 27 (.pointer (some ⟨bp0, 0, none⟩)) (by kernel_rfl) rfl (by kernel_rfl) (.head _) (QP_then QP_body) ?_
      refine WA_pure 6 28 (.pointer (some ⟨bp0, 1, none⟩)) (by kernel_rfl) rfl (by kernel_rfl) (.head _) (QP_then QP_body) ?_
      refine WA_load_own (t := 3) (x := (.tmp 28)) 7 29 (.int .i64 p0.2) (by kernel_rfl) rfl (by kernel_rfl) (.head _) (QP_then QP_body) (fun _ h => h.2.1) (show evL _ _ = some (.pointer (some ⟨bp0, 1, none⟩)) from (by kernel_rfl)) (by kernel_rfl) ?_
      replace hr := bindS hr
      obtain ⟨x1, hx1, hr⟩ := hr
      refine WA_index (t := 32) (e := 3) (x := (.tmp 25)) (y := (.tmp 29)) 8 30 (cInt .i64) (by kernel_rfl) rfl (by kernel_rfl) (.head _) (QP_then QP_body) (show evL _ _ = some (.slice a1 (List.length p0.1) c1) from (by kernel_rfl)) (show evL _ _ = some (.int .i64 p0.2) from (by kernel_rfl)) (by kernel_rfl) r1 hx1 ?_
      rintro b1 f1 cs1 rfl hq1
      refine WA_load_row (t := 3) (x := (.tmp 30)) 9 31 (.int .i64 x1) (by kernel_rfl) rfl (by kernel_rfl) (.head _) (QP_then QP_body) (fun _ h => h.1) (show evL _ _ = some (.pointer (some ⟨b1, f1, none⟩)) from (by kernel_rfl)) hq1 (by kernel_rfl) ?_
      refine WA_pure 10 5 (.int .i64 x1) (by kernel_rfl) rfl (by kernel_rfl) (.head _) (QP_then QP_body) ?_
      refine WA_done (by kernel_rfl) ?_
      obtain rfl := Option.some.inj hr
      exact X_env _ (by kernel_rfl) (Ku1 _ _ ⟨m, rfl, hm, st, r1⟩)
    · intro hc
      rw [if_neg (not_true hc)] at hr
      refine W_skip ?_
      obtain rfl := Option.some.inj hr
      exact X_env _ (by kernel_rfl) (Ku1 _ _ ⟨m, rfl, hm, st, r1⟩)

def testgatemake_Tape_Text_L1 (N : Nat) (p1 : Int) (p2 : ByteArray) (s1 : List (UInt8) × Int × List (Int) × Int) : Option ((List (UInt8) × Int × List (Int) × Int) ⊕ ((List (UInt8) × List (Int) × Int))) :=
  if (decide (s1.2.1 < p1)) = true then ((testgatemake_Tape_Next N (s1.2.2.1, s1.2.2.2) (ByteArray.size p2 : Int)).bind fun y1 => (idxB p2 y1.2).bind fun x1 => (appendS 1 s1.1 ([x1])).bind fun l1 => some (.inl (l1, IntKind.wrap .i64 (s1.2.1 + 1), y1.1.1, y1.1.2))) else (some (.inr (s1.1, s1.2.2.1, s1.2.2.2)))

def testgatemake_Tape_Text (N : Nat) (p0 : List Int × Int) (p1 : Int) (p2 : ByteArray) : Option ((List Int × Int) × ByteArray) :=
  (loopM (testgatemake_Tape_Text_L1 N p1 p2) N (([] : List (UInt8)), 0, p0.1, p0.2)).bind fun o1 => some ((o1.2.1, o1.2.2), strOf o1.1)

set_option maxHeartbeats 4000000 in
set_option maxRecDepth 100000 in
theorem testgatemake_Tape_Text_ok {N : Nat} {m : Mem} {own : List Piece} {w : World} {p0 : List Int × Int} {p1 : Int} {p2 : ByteArray} {bp0 : Nat} {a1 : Option Addr} {c1 : Nat} {r : (List Int × Int) × ByteArray} (st : St m (.blk bp0 (.cells #[.slice a1 (List.length p0.1) c1, .int .i64 p0.2] 35 (0, 0)) :: own) w) (r1 : RepS (cInt .i64) m a1 c1 p0.1) (hr : testgatemake_Tape_Text N p0 p1 p2 = some r) : Calls Go.Proofs.Try.prog 55 #[.pointer (some ⟨bp0, 0, none⟩), .int .i64 p1, .string p2] w fun e w' => ∃ (ra1 : Option Addr) (rc1 : Nat) (m' : Mem), e = .returned (.string r.2) ∧ m.le m' ∧ St m' (.blk bp0 (.cells #[.slice ra1 (List.length r.1.1) rc1, .int .i64 r.1.2] 35 (0, 0)) :: own) w' ∧ RepS (cInt .i64) m' ra1 rc1 r.1.1 := by
  unfold testgatemake_Tape_Text at hr
  have hm := m.le_refl
  refine W_calls Go.Proofs.Try.func55 rfl Go.Proofs.Try.ntmps55 [(0, .pointer (some ⟨bp0, 0, none⟩)), (1, .int .i64 p1), (2, .string p2)] (by kernel_rfl) rfl ?_
  refine W_seq ?_
  refine W_region ?_
  refine WO_seg 1 [] (by kernel_rfl) (by kernel_rfl) ?_
  refine WO_end rfl ?_
  refine X_then ?_
  refine W_seq ?_
  refine W_region ?_
  refine WO_seg 1 [(7, .slice none (List.length ([] : List (UInt8))) 0)] (by kernel_rfl) (by kernel_rfl) ?_
  refine WO_end rfl ?_
  refine X_then ?_
  refine W_seq ?_
  refine W_seq ?_
  refine W_region ?_
  refine WO_seg 1 [(8, .int .i64 0)] (by kernel_rfl) (by kernel_rfl) ?_
  refine WO_end rfl ?_
  refine X_then ?_
  refine W_block ?_
  replace hr := bindS hr
  obtain ⟨out1, hr, hrKu1⟩ := hr
  refine W_cut (.exit 0) (fun L' w' => ∃ (o1 : List (UInt8) × List (Int) × Int) (a2 : Option Addr) (c3 : Nat) (a3 : Option Addr) (c4 : Nat) (m1 : Mem), o1 = out1 ∧ L' = [(7, .slice a2 (List.length o1.1) c3)] ∧ m.le m1 ∧ St m1 (.blk bp0 (.cells #[.slice a3 (List.length o1.2.1) c4, .int .i64 o1.2.2] 35 (0, 0)) :: .room a2 (List.length o1.1) c3 5 1 :: own) w' ∧ RepS cU8 m1 a2 c3 o1.1 ∧ RepS (cInt .i64) m1 a3 c4 o1.2.1) ?_ ?_
  · clear hr st
    rintro _ w1 ⟨o1, a2, c3, a3, c4, m1, rfl, rfl, hm, st, r2, r3⟩
    have hr := hrKu1
    clear hrKu1
    refine X_block_eq ?_
    refine X_then ?_
    refine W_seq ?_
    refine W_region ?_
    refine WO_seg 1 [(23, .slice a2 (List.length o1.1) c3)] (by kernel_rfl) (by kernel_rfl) ?_
    refine WO_one rfl (One_bytesStr (d := 24) (t1 := 50) (t2 := 9) (e := 5) (x := (.tmp 23)) (by kernel_rfl) rfl (show evL _ _ = some (.slice a2 (List.length o1.1) c3) from (by kernel_rfl)) (by kernel_rfl) (by kernel_rfl) st r2 ?_)
    refine WO_seg 1 [(6, .string (strOf o1.1))] (by kernel_rfl) (by kernel_rfl) ?_
    refine WO_end rfl ?_
    have st := st.front1
    have st := st.tail
    refine X_then ?_
    refine W_ret ?_
    obtain rfl := Option.some.inj hr
    refine X_ret [.tmp 6] [.string (strOf o1.1)] rfl (ResAll.cons (ResAt.tmp (by kernel_rfl)) ResAll.nil) ?_
    exact ⟨a3, c4, m1, rfl, hm, st, r3⟩
  intro K0_u1
  clear hrKu1
  have st := st.nilroom 5 1
  have st := st.front1
  refine W_env _ (by kernel_rfl) (W_loop (fun k1 L' w' => ∃ (s1 : List (UInt8) × Int × List (Int) × Int) (a4 : Option Addr) (c5 : Nat) (a5 : Option Addr) (c6 : Nat) (m2 : Mem), loopM (testgatemake_Tape_Text_L1 N p1 p2) k1 s1 = some out1 ∧ L' = [(0, .pointer (some ⟨bp0, 0, none⟩)), (1, .int .i64 p1), (2, .string p2), (7, .slice a4 (List.length s1.1) c5), (8, .int .i64 s1.2.1)] ∧ m.le m2 ∧ St m2 (.blk bp0 (.cells #[.slice a5 (List.length s1.2.2.1) c6, .int .i64 s1.2.2.2] 35 (0, 0)) :: .room a4 (List.length s1.1) c5 5 1 :: own) w' ∧ RepS cU8 m2 a4 c5 s1.1 ∧ RepS (cInt .i64) m2 a5 c6 s1.2.2.1) N ⟨(([] : List (UInt8)), 0, p0.1, p0.2), none, 0, a1, c1, m, hr, rfl, hm, st, (RepS.nil _ _), r1⟩ ?_)
  clear st hr
  rintro k1 _ w2 ⟨s1, a4, c5, a5, c6, m2, hL, rfl, hm, st, r4, r5⟩
  rcases k1 with _ | k1
  · exact loopM_zero hL
  · obtain ⟨qu1, hr, hSu1, hBu1⟩ := loopM_succ hL
    clear hL
    unfold testgatemake_Tape_Text_L1 at hr
    refine W_seq ?_
    refine W_seq ?_
    refine W_region ?_
    refine WO_seg 3 [(11, .bool (decide (s1.2.1 < p1)))] (by kernel_rfl) (by kernel_rfl) ?_
    refine WO_end rfl ?_
    refine X_then ?_
    refine W_cond (decide (s1.2.1 < p1)) (by kernel_rfl) ?_ ?_
    · intro hc
      rw [if_pos hc] at hr
      refine W_skip ?_
      refine X_then ?_
      refine W_seq ?_
      refine W_block ?_
      refine W_region ?_
      refine WO_seg 5 [(14, .slice a4 (List.length s1.1) c5), (15, .string p2), (16, .pointer (some ⟨bp0, 0, none⟩)), (18, .int .i64 (ByteArray.size p2 : Int))] (by kernel_rfl) (by kernel_rfl) ?_
      replace hr := bindS hr
      obtain ⟨y1, hx1, hr⟩ := hr
      refine WO_one rfl (One_fn 19 25 #[.pointer (some ⟨bp0, 0, none⟩), .int .i64 (ByteArray.size p2 : Int)] (by kernel_rfl) rfl ?_)
      refine (testgatemake_Tape_Next_ok st r5 hx1).mono ?_
      clear st
      rintro _ w3 ⟨a6, c7, m3, rfl, hle1, st, r6⟩
      refine ⟨_, rfl, ?_⟩
      have hm := Mem.le_trans hm hle1
      have r4 := r4.mono hle1
      have r5 := r5.mono hle1
      replace hr := bindS hr
      obtain ⟨x1, hx2, hr⟩ := hr
      refine WO_one rfl (One_strIndex (d := 20) (t := 9) (x := (.tmp 15)) (y := (.tmp 19)) (by kernel_rfl) rfl (show evL _ _ = some (.string p2) from (by kernel_rfl)) (show evL _ _ = some (.int .i64 y1.2) from (by kernel_rfl)) (by kernel_rfl) hx2 ?_)
      refine WO_one rfl (One_buildSlice (d := 21) (t := 50) (e := 5) (len := 1) (parts := #[(0, (.tmp 20))]) cU8 (xs := [x1]) [.int .u8 (x1.toNat : Int)] (by kernel_rfl) rfl (fun _ => buildCells_run (by kernel_rfl) _) rfl rfl st ⟨[.int .u8 (x1.toNat : Int)], _, rfl, rfl, rfl⟩ ?_)
      clear st
      intro b1 m4 w4 hle2 st r7
      have hm := Mem.le_trans hm hle2
      have r4 := r4.mono hle2
      have r6 := r6.mono hle2
      have st := st.front2
      replace hr := bindS hr
      obtain ⟨l1, hx3, hr⟩ := hr
      refine WO_one rfl (One_append (d := 22) (t := 50) (u := 50) (e := 5) (by_ := 1) (x := (.tmp 14)) (y := (.tmp 21)) cU8 (by kernel_rfl) rfl (show evL _ _ = some (.slice a4 (List.length s1.1) c5) from (by kernel_rfl)) (show evL _ _ = some (.slice (some ⟨b1, 0, none⟩) (List.length ([x1])) 1) from (by kernel_rfl)) st (by kernel_rfl) (.inl (by kernel_rfl)) r4 r7.src hx3 ?_)
      clear st
      intro a7 c8 m5 w5 hle3 st r8
      have hm := Mem.le_trans hm hle3
      have r4 := r4.mono hle3
      have r7 := r7.mono hle3
      have r6 := r6.mono hle3
      refine WO_seg 1 [(7, .slice a7 (List.length l1) c8)] (by kernel_rfl) (by kernel_rfl) ?_
      refine WO_end rfl ?_
      have st := st.front1
      have st := st.tail
      refine X_block ?_
      refine X_then ?_
      refine W_region ?_
      refine WO_seg 3 [(8, .int .i64 (IntKind.wrap .i64 (s1.2.1 + 1)))] (by kernel_rfl) (by kernel_rfl) ?_
      refine WO_end rfl ?_
      obtain rfl := Option.some.inj hr
      have hL := hSu1 _ rfl
      have st := st.front1
      exact X_env _ (by kernel_rfl) (X_round k1 (Nat.lt_succ_self _) ⟨(l1, IntKind.wrap .i64 (s1.2.1 + 1), y1.1.1, y1.1.2), a7, c8, a6, c7, m5, hL, rfl, hm, st, r8, r6⟩)
    · intro hc
      rw [if_neg (not_true hc)] at hr
      refine W_exit ?_
      refine X_then_exit ?_
      obtain rfl := Option.some.inj hr
      have ho := hBu1 _ rfl
      have st := st.front1
      have st := st.front1
      refine X_then_exit ?_
      exact X_env _ (by kernel_rfl) (K0_u1 _ _ ⟨(s1.1, s1.2.2.1, s1.2.2.2), a4, c5, a5, c6, m2, ho, rfl, hm, st, r4, r5⟩)

def testgatemake_Has_L1 (N : Nat) (p0 : List ByteArray) (p1 : ByteArray) (s1 : Int) : Option ((Int) ⊕ ((Unit) ⊕ (Bool))) :=
  if (decide (s1 < (List.length p0 : Int))) = true then ((idx p0 s1).bind fun x1 => if (x1.toList == p1.toList) = true then (some (.inr (.inr (true)))) else (some (.inl (IntKind.wrap .i64 (s1 + 1))))) else (some (.inr (.inl ())))

def testgatemake_Has (N : Nat) (p0 : List ByteArray) (p1 : ByteArray) : Option (Bool) :=
  (loopM (testgatemake_Has_L1 N p0 p1) N 0).bind fun out1 => (match out1 with | .inl o1 => some false | .inr (z) => some z)

set_option maxHeartbeats 4000000 in
set_option maxRecDepth 100000 in
theorem testgatemake_Has_ok {N : Nat} {m : Mem} {own : List Piece} {w : World} {p0 : List ByteArray} {p1 : ByteArray} {a1 : Option Addr} {c1 : Nat} {r : Bool} (st : St m (own) w) (r1 : RepS cStr m a1 c1 p0) (hr : testgatemake_Has N p0 p1 = some r) : Calls Go.Proofs.Try.prog 63 #[.slice a1 (List.length p0) c1, .string p1] w fun e w' => ∃ (m' : Mem), e = .returned (.bool r) ∧ m.le m' ∧ St m' (own) w' := by
  unfold testgatemake_Has at hr
  have hm := m.le_refl
  refine W_calls Go.Proofs.Try.func63 rfl Go.Proofs.Try.ntmps63 [(0, .slice a1 (List.length p0) c1), (1, .string p1)] (by kernel_rfl) rfl ?_
  refine W_seq ?_
  refine W_region ?_
  refine WO_seg 1 [] (by kernel_rfl) (by kernel_rfl) ?_
  refine WO_end rfl ?_
  refine X_then ?_
  refine W_seq ?_
  refine W_seq ?_
  refine W_region ?_
  refine WO_seg 1 [(5, .int .i64 0)] (by kernel_rfl) (by kernel_rfl) ?_
  refine WO_end rfl ?_
  refine X_then ?_
  refine W_block ?_
  replace hr := bindS hr
  obtain ⟨out1, hr, hrKu1⟩ := hr
  refine W_cut (.exit 0) (fun L' w' => ∃ (o1 : Unit) (m1 : Mem), (.inl o1) = out1 ∧ L' = [] ∧ m.le m1 ∧ St m1 (own) w') ?_ ?_
  · clear hr st
    rintro _ w1 ⟨o1, m1, rfl, rfl, hm, st⟩
    have hr := hrKu1
    clear hrKu1
    dsimp only at hr
    refine X_block_eq ?_
    refine X_then ?_
    refine W_seq ?_
    refine W_region ?_
    refine WO_seg 1 [(4, .bool false)] (by kernel_rfl) (by kernel_rfl) ?_
    refine WO_end rfl ?_
    refine X_then ?_
    refine W_ret ?_
    obtain rfl := Option.some.inj hr
    refine X_ret [.tmp 4] [.bool false] rfl (ResAll.cons (ResAt.tmp (by kernel_rfl)) ResAll.nil) ?_
    exact ⟨m1, rfl, hm, st⟩
  intro K0_u1
  refine W_env _ (by kernel_rfl) (W_loop (fun k1 L' w' => ∃ (s1 : Int) (m2 : Mem), loopM (testgatemake_Has_L1 N p0 p1) k1 s1 = some out1 ∧ L' = [(0, .slice a1 (List.length p0) c1), (1, .string p1), (5, .int .i64 s1)] ∧ m.le m2 ∧ St m2 (own) w' ∧ RepS cStr m2 a1 c1 p0) N ⟨0, m, hr, rfl, hm, st, r1⟩ ?_)
  clear st hr
  rintro k1 _ w2 ⟨s1, m2, hL, rfl, hm, st, r1⟩
  rcases k1 with _ | k1
  · exact loopM_zero hL
  · obtain ⟨qu1, hr, hSu1, hBu1⟩ := loopM_succ hL
    clear hL
    unfold testgatemake_Has_L1 at hr
    refine W_seq ?_
    refine W_seq ?_
    refine W_region ?_
    refine WO_seg 4 [(9, .bool (decide (s1 < (List.length p0 : Int))))] (by kernel_rfl) (by kernel_rfl) ?_
    refine WO_end rfl ?_
    refine X_then ?_
    refine W_cond (decide (s1 < (List.length p0 : Int))) (by kernel_rfl) ?_ ?_
    · intro hc
      rw [if_pos hc] at hr
      refine W_skip ?_
      refine X_then ?_
      refine W_seq ?_
      refine W_block ?_
      refine W_seq ?_
      refine W_region ?_
      refine WO_seg 2 [(12, .slice a1 (List.length p0) c1), (13, .int .i64 s1)] (by kernel_rfl) (by kernel_rfl) ?_
      replace hr := bindS hr
      obtain ⟨x1, hx1, hr⟩ := hr
      refine WO_one rfl (One_index (d := 14) (t := 22) (e := 9) (x := (.tmp 12)) (y := (.tmp 13)) cStr (by kernel_rfl) rfl (show evL _ _ = some (.slice a1 (List.length p0) c1) from (by kernel_rfl)) (show evL _ _ = some (.int .i64 s1) from (by kernel_rfl)) (by kernel_rfl) r1 hx1 ?_)
      rintro b1 f1 cs1 rfl hq1
      refine WO_one rfl (One_load_row (d := 15) (t := 9) (x := (.tmp 14)) (.string x1) (by kernel_rfl) rfl (show evL _ _ = some (.pointer (some ⟨b1, f1, none⟩)) from (by kernel_rfl)) st hq1 (by kernel_rfl) ?_)
      refine WO_seg 2 [(17, .bool (x1.toList == p1.toList))] (by kernel_rfl) (by kernel_rfl) ?_
      refine WO_end rfl ?_
      refine X_then ?_
      refine W_cond (x1.toList == p1.toList) (by kernel_rfl) ?_ ?_
      · intro hc
        rw [if_pos hc] at hr
        refine W_seq ?_
        refine W_region ?_
        refine WO_seg 1 [(4, .bool true)] (by kernel_rfl) (by kernel_rfl) ?_
        refine WO_end rfl ?_
        refine X_then ?_
        refine W_ret ?_
        refine X_block_ret ?_
        refine X_then_ret ?_
        obtain rfl := Option.some.inj hr
        have ho := hBu1 _ rfl
        subst ho
        have hr := hrKu1
        dsimp only at hr
        refine X_then_ret ?_
        refine X_block_ret ?_
        refine X_then_ret ?_
        obtain rfl := Option.some.inj hr
        refine X_ret [.tmp 4] [.bool true] rfl (ResAll.cons (ResAt.tmp (by kernel_rfl)) ResAll.nil) ?_
        exact ⟨m2, rfl, hm, st⟩
      · intro hc
        rw [if_neg (not_true hc)] at hr
        refine W_skip ?_
        refine X_block ?_
        refine X_then ?_
        refine W_region ?_
        refine WO_seg 3 [(5, .int .i64 (IntKind.wrap .i64 (s1 + 1)))] (by kernel_rfl) (by kernel_rfl) ?_
        refine WO_end rfl ?_
        obtain rfl := Option.some.inj hr
        have hL := hSu1 _ rfl
        exact X_env _ (by kernel_rfl) (X_round k1 (Nat.lt_succ_self _) ⟨IntKind.wrap .i64 (s1 + 1), m2, hL, rfl, hm, st, r1⟩)
    · intro hc
      rw [if_neg (not_true hc)] at hr
      refine W_exit ?_
      refine X_then_exit ?_
      obtain rfl := Option.some.inj hr
      have ho := hBu1 _ rfl
      refine X_then_exit ?_
      exact X_env _ (by kernel_rfl) (K0_u1 _ _ ⟨(), m2, ho, rfl, hm, st⟩)

def testgatemake_Tape_Chance (N : Nat) (p0 : List Int × Int) (p1 : Int) (p2 : Int) : Option ((List Int × Int) × Bool) :=
  (testgatemake_Tape_Next N (p0.1, p0.2) p2).bind fun y1 => some ((y1.1.1, y1.1.2), decide (y1.2 < p1))

set_option maxHeartbeats 4000000 in
set_option maxRecDepth 100000 in
theorem testgatemake_Tape_Chance_ok {N : Nat} {m : Mem} {own : List Piece} {w : World} {p0 : List Int × Int} {p1 : Int} {p2 : Int} {bp0 : Nat} {a1 : Option Addr} {c1 : Nat} {r : (List Int × Int) × Bool} (st : St m (.blk bp0 (.cells #[.slice a1 (List.length p0.1) c1, .int .i64 p0.2] 35 (0, 0)) :: own) w) (r1 : RepS (cInt .i64) m a1 c1 p0.1) (hr : testgatemake_Tape_Chance N p0 p1 p2 = some r) : Calls Go.Proofs.Try.prog 17 #[.pointer (some ⟨bp0, 0, none⟩), .int .i64 p1, .int .i64 p2] w fun e w' => ∃ (ra1 : Option Addr) (rc1 : Nat) (m' : Mem), e = .returned (.bool r.2) ∧ m.le m' ∧ St m' (.blk bp0 (.cells #[.slice ra1 (List.length r.1.1) rc1, .int .i64 r.1.2] 35 (0, 0)) :: own) w' ∧ RepS (cInt .i64) m' ra1 rc1 r.1.1 := by
  unfold testgatemake_Tape_Chance at hr
  have hm := m.le_refl
  refine W_calls Go.Proofs.Try.func17 rfl Go.Proofs.Try.ntmps17 [(0, .pointer (some ⟨bp0, 0, none⟩)), (1, .int .i64 p1), (2, .int .i64 p2)] (by kernel_rfl) rfl ?_
  refine W_seq ?_
  refine W_region ?_
  refine WO_seg 1 [] (by kernel_rfl) (by kernel_rfl) ?_
  refine WO_end rfl ?_
  refine X_then ?_
  refine W_seq ?_
  refine W_region ?_
  refine WO_seg 2 [(7, .pointer (some ⟨bp0, 0, none⟩)), (8, .int .i64 p2)] (by kernel_rfl) (by kernel_rfl) ?_
  replace hr := bindS hr
  obtain ⟨y1, hx1, hr⟩ := hr
  refine WO_one rfl (One_fn 9 25 #[.pointer (some ⟨bp0, 0, none⟩), .int .i64 p2] (by kernel_rfl) rfl ?_)
  refine (testgatemake_Tape_Next_ok st r1 hx1).mono ?_
  clear st
  rintro _ w1 ⟨a2, c3, m1, rfl, hle1, st, r2⟩
  refine ⟨_, rfl, ?_⟩
  have hm := Mem.le_trans hm hle1
  have r1 := r1.mono hle1
  refine WO_seg 3 [(6, .bool (decide (y1.2 < p1)))] (by kernel_rfl) (by kernel_rfl) ?_
  refine WO_end rfl ?_
  refine X_then ?_
  refine W_ret ?_
  obtain rfl := Option.some.inj hr
  refine X_ret [.tmp 6] [.bool (decide (y1.2 < p1))] rfl (ResAll.cons (ResAt.tmp (by kernel_rfl)) ResAll.nil) ?_
  exact ⟨a2, c3, m1, rfl, hm, st, r2⟩

def testgatelaw13_store_L1 (N : Nat) (s1 : Int × List (Int) × Int × List (ByteArray)) : Option ((Int × List (Int) × Int × List (ByteArray)) ⊕ ((List (Int) × Int × List (ByteArray)))) :=
  if (decide (s1.1 > 0)) = true then (((testgatemake_Tape_Next N (s1.2.1, s1.2.2.1) 3).bind fun y2 => (testgatemake_Tape_Text N (y2.1.1, y2.1.2) y2.2 (⟨#[97, 98, 61]⟩ : ByteArray)).bind fun y3 => ((testgatemake_Has N s1.2.2.2 y3.2).bind fun y4 => if (!y4) = true then (some (true, y3.1.1, y3.1.2)) else ((testgatemake_Tape_Chance N (y3.1.1, y3.1.2) 1 30).bind fun y5 => some (y5.2, y5.1.1, y5.1.2)) : Option (Bool × List (Int) × Int)).bind fun o3 => if o3.1 = true then ((appendS 16 s1.2.2.2 ([y3.2])).bind fun l1 => some (o3.2.1, o3.2.2, l1)) else (some (o3.2.1, o3.2.2, s1.2.2.2)) : Option (List (Int) × Int × List (ByteArray))).bind fun o2 => some (.inl (IntKind.wrap .i64 (s1.1 - 1), o2.1, o2.2.1, o2.2.2))) else (some (.inr (s1.2.1, s1.2.2.1, s1.2.2.2)))

def testgatelaw13_store (N : Nat) (p0 : List Int × Int) : Option ((List Int × Int) × List ByteArray) :=
  (testgatemake_Tape_Next N (p0.1, p0.2) 9).bind fun y1 => (loopM (testgatelaw13_store_L1 N) N (y1.2, y1.1.1, y1.1.2, ([] : List (ByteArray)))).bind fun o1 => some ((o1.1, o1.2.1), o1.2.2)

set_option maxHeartbeats 4000000 in
set_option maxRecDepth 100000 in
theorem testgatelaw13_store_ok {N : Nat} {m : Mem} {own : List Piece} {w : World} {p0 : List Int × Int} {bp0 : Nat} {a1 : Option Addr} {c1 : Nat} {r : (List Int × Int) × List ByteArray} (st : St m (.blk bp0 (.cells #[.slice a1 (List.length p0.1) c1, .int .i64 p0.2] 35 (0, 0)) :: own) w) (r1 : RepS (cInt .i64) m a1 c1 p0.1) (hr : testgatelaw13_store N p0 = some r) : Calls Go.Proofs.Try.prog 16 #[.pointer (some ⟨bp0, 0, none⟩)] w fun e w' => ∃ (ra1 : Option Addr) (rc1 : Nat) (ra2 : Option Addr) (rc2 : Nat) (m' : Mem), e = .returned (.agg #[.slice ra2 (List.length r.2) rc2]) ∧ m.le m' ∧ St m' (.room ra2 (List.length r.2) rc2 9 1 :: .blk bp0 (.cells #[.slice ra1 (List.length r.1.1) rc1, .int .i64 r.1.2] 35 (0, 0)) :: own) w' ∧ RepS (cInt .i64) m' ra1 rc1 r.1.1 ∧ RepS cStr m' ra2 rc2 r.2 := by
  unfold testgatelaw13_store at hr
  have hm := m.le_refl
  refine W_calls Go.Proofs.Try.func16 rfl Go.Proofs.Try.ntmps16 [(0, .pointer (some ⟨bp0, 0, none⟩))] (by kernel_rfl) rfl ?_
  refine W_seq ?_
  refine W_region ?_
  refine WO_one rfl (One_alloc (d := 2) (e := 24) (.agg #[.slice none 0 0]) (by kernel_rfl) rfl (by kernel_rfl) st ?_)
  clear st
  intro b1 w1 st
  refine WO_end rfl ?_
  refine X_then ?_
  refine W_seq ?_
  refine W_region ?_
  refine WO_one rfl (One_alloc (d := 3) (e := 24) (.agg #[.slice none 0 0]) (by kernel_rfl) rfl (by kernel_rfl) st ?_)
  clear st
  intro b2 w2 st
  refine WO_end rfl ?_
  refine X_then ?_
  refine W_seq ?_
  refine W_seq ?_
  refine W_region ?_
  refine WO_seg 1 [(6, .pointer (some ⟨bp0, 0, none⟩))] (by kernel_rfl) (by kernel_rfl) ?_
  have st := st.front2
  replace hr := bindS hr
  obtain ⟨y1, hx1, hr⟩ := hr
  refine WO_one rfl (One_fn 7 25 #[.pointer (some ⟨bp0, 0, none⟩), .int .i64 9] (by kernel_rfl) rfl ?_)
  refine (testgatemake_Tape_Next_ok st r1 hx1).mono ?_
  clear st
  rintro _ w3 ⟨a2, c3, m1, rfl, hle1, st, r2⟩
  refine ⟨_, rfl, ?_⟩
  have hm := Mem.le_trans hm hle1
  have r1 := r1.mono hle1
  refine WO_seg 1 [(4, .int .i64 y1.2)] (by kernel_rfl) (by kernel_rfl) ?_
  refine WO_end rfl ?_
  refine X_then ?_
  refine W_block ?_
  replace hr := bindS hr
  obtain ⟨out1, hr, hrKu1⟩ := hr
  refine W_cut (.exit 0) (fun L' w' => ∃ (o1 : List (Int) × Int × List (ByteArray)) (a3 : Option Addr) (c4 : Nat) (a4 : Option Addr) (c5 : Nat) (m2 : Mem), o1 = out1 ∧ L' = [(2, .pointer (some ⟨b1, 0, none⟩)), (3, .pointer (some ⟨b2, 0, none⟩))] ∧ m.le m2 ∧ St m2 (.blk bp0 (.cells #[.slice a3 (List.length o1.1) c4, .int .i64 o1.2.1] 35 (0, 0)) :: .blk b2 (.cells #[.slice a4 (List.length o1.2.2) c5] 24 (0, 0)) :: .blk b1 (.cells #[.slice none (List.length ([] : List (ByteArray))) 0] 24 (0, 0)) :: .room a4 (List.length o1.2.2) c5 9 1 :: own) w' ∧ RepS (cInt .i64) m2 a3 c4 o1.1 ∧ RepS cStr m2 a4 c5 o1.2.2) ?_ ?_
  · clear hr st
    rintro _ w4 ⟨o1, a3, c4, a4, c5, m2, rfl, rfl, hm, st, r3, r4⟩
    have hr := hrKu1
    clear hrKu1
    refine X_block_eq ?_
    refine X_then ?_
    refine W_seq ?_
    refine W_region ?_
    refine WO_one rfl (One_load_own (d := 31) (t := 24) (x := (.tmp 3)) (.agg #[.slice a4 (List.length o1.2.2) c5]) (by kernel_rfl) rfl (show evL _ _ = some (.pointer (some ⟨b2, 0, none⟩)) from (by kernel_rfl)) st.tail.head (by kernel_rfl) ?_)
    have st := st.front2
    refine WO_one rfl (One_store (t := 24) (x := (.tmp 2)) (y := (.tmp 31)) (v := .agg #[.slice a4 (List.length o1.2.2) c5]) (c' := #[.slice a4 (List.length o1.2.2) c5]) (by kernel_rfl) (show evL _ _ = some (.pointer (some ⟨b1, 0, none⟩)) from (by kernel_rfl)) (show evL _ _ = some (.agg #[.slice a4 (List.length o1.2.2) c5]) from (by kernel_rfl)) st (by kernel_rfl) (by kernel_rfl) ?_)
    clear st
    intro w15 st
    refine WO_end rfl ?_
    refine X_then ?_
    refine W_ret ?_
    obtain rfl := Option.some.inj hr
    refine X_ret [.cell 2 24] [.agg #[.slice a4 (List.length o1.2.2) c5]] rfl (ResAll.cons (ResAt.blk (v := .agg #[.slice a4 (List.length o1.2.2) c5]) (o := 0) (by kernel_rfl) st.head (by kernel_rfl)) ResAll.nil) ?_
    have st := st.tail
    have st := st.front1
    have st := st.tail
    have st := st.front1
    exact ⟨a3, c4, a4, c5, m2, rfl, hm, st, r3, r4⟩
  intro K0_u1
  clear hrKu1
  have st := st.nilroom 9 1
  have st := st.front3
  have st := st.front3
  have st := st.front3
  refine W_env _ (by kernel_rfl) (W_loop (fun k1 L' w' => ∃ (s1 : Int × List (Int) × Int × List (ByteArray)) (a5 : Option Addr) (c6 : Nat) (a6 : Option Addr) (c7 : Nat) (m3 : Mem), loopM (testgatelaw13_store_L1 N) k1 s1 = some out1 ∧ L' = [(0, .pointer (some ⟨bp0, 0, none⟩)), (2, .pointer (some ⟨b1, 0, none⟩)), (3, .pointer (some ⟨b2, 0, none⟩)), (4, .int .i64 s1.1)] ∧ m.le m3 ∧ St m3 (.blk bp0 (.cells #[.slice a5 (List.length s1.2.1) c6, .int .i64 s1.2.2.1] 35 (0, 0)) :: .blk b2 (.cells #[.slice a6 (List.length s1.2.2.2) c7] 24 (0, 0)) :: .blk b1 (.cells #[.slice none (List.length ([] : List (ByteArray))) 0] 24 (0, 0)) :: .room a6 (List.length s1.2.2.2) c7 9 1 :: own) w' ∧ RepS (cInt .i64) m3 a5 c6 s1.2.1 ∧ RepS cStr m3 a6 c7 s1.2.2.2) N ⟨(y1.2, y1.1.1, y1.1.2, ([] : List (ByteArray))), a2, c3, none, 0, m1, hr, rfl, hm, st, r2, (RepS.nil _ _)⟩ ?_)
  clear st hr
  rintro k1 _ w5 ⟨s1, a5, c6, a6, c7, m3, hL, rfl, hm, st, r5, r6⟩
  rcases k1 with _ | k1
  · exact loopM_zero hL
  · obtain ⟨qu1, hr, hSu1, hBu1⟩ := loopM_succ hL
    clear hL
    unfold testgatelaw13_store_L1 at hr
    refine W_seq ?_
    refine W_seq ?_
    refine W_region ?_
    refine WO_seg 2 [(9, .bool (decide (s1.1 > 0)))] (by kernel_rfl) (by kernel_rfl) ?_
    refine WO_end rfl ?_
    refine X_then ?_
    refine W_cond (decide (s1.1 > 0)) (by kernel_rfl) ?_ ?_
    · intro hc
      rw [if_pos hc] at hr
      refine W_skip ?_
      refine X_then ?_
      refine W_seq ?_
      replace hr := bindS hr
      obtain ⟨o2, hr, hrKu2⟩ := hr
      refine W_cut .normal (fun L' w' => ∃ (a7 : Option Addr) (c8 : Nat) (a8 : Option Addr) (c9 : Nat) (m4 : Mem), L' = [(0, .pointer (some ⟨bp0, 0, none⟩)), (2, .pointer (some ⟨b1, 0, none⟩)), (3, .pointer (some ⟨b2, 0, none⟩)), (4, .int .i64 s1.1)] ∧ m.le m4 ∧ St m4 (.blk bp0 (.cells #[.slice a7 (List.length o2.1) c8, .int .i64 o2.2.1] 35 (0, 0)) :: .blk b2 (.cells #[.slice a8 (List.length o2.2.2) c9] 24 (0, 0)) :: .blk b1 (.cells #[.slice none (List.length ([] : List (ByteArray))) 0] 24 (0, 0)) :: .room a8 (List.length o2.2.2) c9 9 1 :: own) w' ∧ RepS (cInt .i64) m4 a7 c8 o2.1 ∧ RepS cStr m4 a8 c9 o2.2.2) ?_ ?_
      · clear hr st
        have hr := hrKu2
        clear hrKu2
        rintro _ w6 ⟨a7, c8, a8, c9, m4, rfl, hm, st, r7, r8⟩
        refine X_then ?_
        refine W_region ?_
        refine WO_seg 3 [(4, .int .i64 (IntKind.wrap .i64 (s1.1 - 1)))] (by kernel_rfl) (by kernel_rfl) ?_
        refine WO_end rfl ?_
        obtain rfl := Option.some.inj hr
        have hL := hSu1 _ rfl
        have st := st.front3
        have st := st.front3
        have st := st.front3
        have st := st.front3
        exact X_env _ (by kernel_rfl) (X_round k1 (Nat.lt_succ_self _) ⟨(IntKind.wrap .i64 (s1.1 - 1), o2.1, o2.2.1, o2.2.2), a7, c8, a8, c9, m4, hL, rfl, hm, st, r7, r8⟩)
      · intro Ku2
        clear hrKu2
        refine W_block ?_
        refine W_seq ?_
        refine W_region ?_
        refine WO_seg 2 [(12, .pointer (some ⟨bp0, 0, none⟩)), (13, .pointer (some ⟨bp0, 0, none⟩))] (by kernel_rfl) (by kernel_rfl) ?_
        replace hr := bindS hr
        obtain ⟨y2, hx2, hr⟩ := hr
        refine WO_one rfl (One_fn 14 25 #[.pointer (some ⟨bp0, 0, none⟩), .int .i64 3] (by kernel_rfl) rfl ?_)
        refine (testgatemake_Tape_Next_ok st r5 hx2).mono ?_
        clear st
        rintro _ w7 ⟨a9, c10, m5, rfl, hle2, st, r9⟩
        refine ⟨_, rfl, ?_⟩
        have hm := Mem.le_trans hm hle2
        have r5 := r5.mono hle2
        have r6 := r6.mono hle2
        replace hr := bindS hr
        obtain ⟨y3, hx3, hr⟩ := hr
        refine WO_one rfl (One_fn 15 55 #[.pointer (some ⟨bp0, 0, none⟩), .int .i64 y2.2, .string (⟨#[97, 98, 61]⟩ : ByteArray)] (by kernel_rfl) rfl ?_)
        refine (testgatemake_Tape_Text_ok st r9 hx3).mono ?_
        clear st
        rintro _ w8 ⟨a10, c11, m6, rfl, hle3, st, r10⟩
        refine ⟨_, rfl, ?_⟩
        have hm := Mem.le_trans hm hle3
        have r9 := r9.mono hle3
        have r6 := r6.mono hle3
        refine WO_seg 1 [(5, .string y3.2)] (by kernel_rfl) (by kernel_rfl) ?_
        refine WO_end rfl ?_
        refine X_then ?_
        refine W_seq ?_
        refine W_region ?_
        replace hr := bindS hr
        obtain ⟨o3, hr, hrK⟩ := hr
        refine WO_cut (j := 9) (fun L' w' => ∃ (a11 : Option Addr) (c12 : Nat) (m7 : Mem), L' = [(0, .pointer (some ⟨bp0, 0, none⟩)), (2, .pointer (some ⟨b1, 0, none⟩)), (3, .pointer (some ⟨b2, 0, none⟩)), (4, .int .i64 s1.1), (5, .string y3.2), (24, .bool o3.1)] ∧ m.le m7 ∧ St m7 (.blk bp0 (.cells #[.slice a11 (List.length o3.2.1) c12, .int .i64 o3.2.2] 35 (0, 0)) :: .blk b2 (.cells #[.slice a6 (List.length s1.2.2.2) c7] 24 (0, 0)) :: .blk b1 (.cells #[.slice none (List.length ([] : List (ByteArray))) 0] 24 (0, 0)) :: .room a6 (List.length s1.2.2.2) c7 9 1 :: own) w' ∧ RepS (cInt .i64) m7 a11 c12 o3.2.1 ∧ RepS cStr m7 a6 c7 s1.2.2.2) ?_ ?_
        · clear hr st
          have hr := hrK
          clear hrK
          rintro _ w9 ⟨a11, c12, m7, rfl, hm, st, r11, r6⟩
          refine WO_end rfl ?_
          refine X_then ?_
          refine W_cond o3.1 (by kernel_rfl) ?_ ?_
          · intro hc
            rw [if_pos hc] at hr
            refine W_region ?_
            refine WO_seg 1 [(25, .pointer (some ⟨b2, 0, none⟩))] (by kernel_rfl) (by kernel_rfl) ?_
            refine WO_one rfl (One_load_own (d := 26) (t := 22) (x := (.tmp 25)) (.slice a6 (List.length s1.2.2.2) c7) (by kernel_rfl) rfl (show evL _ _ = some (.pointer (some ⟨b2, 0, none⟩)) from (by kernel_rfl)) st.tail.head (by kernel_rfl) ?_)
            refine WO_seg 1 [(27, .string y3.2)] (by kernel_rfl) (by kernel_rfl) ?_
            refine WO_one rfl (One_buildSlice (d := 28) (t := 22) (e := 9) (len := 1) (parts := #[(0, (.tmp 27))]) cStr (xs := [y3.2]) [.string y3.2] (by kernel_rfl) rfl (fun _ => buildCells_run (by kernel_rfl) _) rfl rfl st ⟨[.string y3.2], _, rfl, rfl, rfl⟩ ?_)
            clear st
            intro b3 m10 w12 hle6 st r13
            have hm := Mem.le_trans hm hle6
            have r6 := r6.mono hle6
            have r11 := r11.mono hle6
            have st := st.front4
            replace hr := bindS hr
            obtain ⟨l1, hx6, hr⟩ := hr
            refine WO_one rfl (One_append (d := 29) (t := 22) (u := 22) (e := 9) (by_ := 16) (x := (.tmp 26)) (y := (.tmp 28)) cStr (by kernel_rfl) rfl (show evL _ _ = some (.slice a6 (List.length s1.2.2.2) c7) from (by kernel_rfl)) (show evL _ _ = some (.slice (some ⟨b3, 0, none⟩) (List.length ([y3.2])) 1) from (by kernel_rfl)) st (by kernel_rfl) (.inl (by kernel_rfl)) r6 r13.src hx6 ?_)
            clear st
            intro a13 c14 m11 w13 hle7 st r14
            have hm := Mem.le_trans hm hle7
            have r6 := r6.mono hle7
            have r13 := r13.mono hle7
            have r11 := r11.mono hle7
            refine WO_seg 1 [(30, .pointer (some ⟨b2, 0, none⟩))] (by kernel_rfl) (by kernel_rfl) ?_
            have st := st.front3
            refine WO_one rfl (One_store (t := 22) (x := (.tmp 30)) (y := (.tmp 29)) (v := .slice a13 (List.length l1) c14) (c' := #[.slice a13 (List.length l1) c14]) (by kernel_rfl) (show evL _ _ = some (.pointer (some ⟨b2, 0, none⟩)) from (by kernel_rfl)) (show evL _ _ = some (.slice a13 (List.length l1) c14) from (by kernel_rfl)) st (by kernel_rfl) (by kernel_rfl) ?_)
            clear st
            intro w14 st
            refine WO_end rfl ?_
            have st := st.front2
            have st := st.tail
            refine X_block ?_
            obtain rfl := Option.some.inj hr
            have st := st.front1
            have st := st.front3
            have st := st.front2
            have st := st.front3
            exact X_env _ (by kernel_rfl) (Ku2 _ _ ⟨a11, c12, a13, c14, m11, rfl, hm, st, r11, r14⟩)
          · intro hc
            rw [if_neg (not_true hc)] at hr
            refine W_skip ?_
            refine X_block ?_
            obtain rfl := Option.some.inj hr
            have st := st.front3
            have st := st.front3
            have st := st.front3
            have st := st.front3
            exact X_env _ (by kernel_rfl) (Ku2 _ _ ⟨a11, c12, a6, c7, m7, rfl, hm, st, r11, r6⟩)
        · intro K
          clear hrK
          refine WO_seg 1 [(16, .pointer (some ⟨b2, 0, none⟩))] (by kernel_rfl) (by kernel_rfl) ?_
          refine WO_one rfl (One_load_own (d := 17) (t := 22) (x := (.tmp 16)) (.slice a6 (List.length s1.2.2.2) c7) (by kernel_rfl) rfl (show evL _ _ = some (.pointer (some ⟨b2, 0, none⟩)) from (by kernel_rfl)) st.tail.head (by kernel_rfl) ?_)
          refine WO_seg 1 [(18, .string y3.2)] (by kernel_rfl) (by kernel_rfl) ?_
          replace hr := bindS hr
          obtain ⟨y4, hx4, hr⟩ := hr
          refine WO_one rfl (One_fn 19 63 #[.slice a6 (List.length s1.2.2.2) c7, .string y3.2] (by kernel_rfl) rfl ?_)
          refine (testgatemake_Has_ok st r6 hx4).mono ?_
          clear st
          rintro _ w10 ⟨m8, rfl, hle4, st⟩
          refine ⟨_, rfl, ?_⟩
          have hm := Mem.le_trans hm hle4
          have r6 := r6.mono hle4
          have r10 := r10.mono hle4
          refine WO_seg 2 [(21, .bool (!y4))] (by kernel_rfl) (by kernel_rfl) ?_
          rcases bcases (!y4) with hc | hc
          · rw [if_pos hc] at hr
            refine WO_fact (t := 21) (b := true) (!y4) (by kernel_rfl) hc ?_
            refine WO_seg 3 [(24, .bool true)] (by kernel_rfl) (by kernel_rfl) ?_
            obtain rfl := Option.some.inj hr
            have st := st.front3
            have st := st.front3
            have st := st.front3
            have st := st.front3
            exact WO_env _ (by kernel_rfl) (K _ _ ⟨a10, c11, m8, rfl, hm, st, r10, r6⟩)
          · rw [if_neg (not_true hc)] at hr
            refine WO_fact (t := 21) (b := false) (!y4) (by kernel_rfl) hc ?_
            refine WO_seg 1 [(22, .pointer (some ⟨bp0, 0, none⟩))] (by kernel_rfl) (by kernel_rfl) ?_
            replace hr := bindS hr
            obtain ⟨y5, hx5, hr⟩ := hr
            refine WO_one rfl (One_fn 23 17 #[.pointer (some ⟨bp0, 0, none⟩), .int .i64 1, .int .i64 30] (by kernel_rfl) rfl ?_)
            refine (testgatemake_Tape_Chance_ok st r10 hx5).mono ?_
            clear st
            rintro _ w11 ⟨a12, c13, m9, rfl, hle5, st, r12⟩
            refine ⟨_, rfl, ?_⟩
            have hm := Mem.le_trans hm hle5
            have r6 := r6.mono hle5
            have r10 := r10.mono hle5
            refine WO_seg 1 [(24, .bool y5.2)] (by kernel_rfl) (by kernel_rfl) ?_
            obtain rfl := Option.some.inj hr
            have st := st.front3
            have st := st.front3
            have st := st.front3
            have st := st.front3
            exact WO_env _ (by kernel_rfl) (K _ _ ⟨a12, c13, m9, rfl, hm, st, r12, r6⟩)
    · intro hc
      rw [if_neg (not_true hc)] at hr
      refine W_exit ?_
      refine X_then_exit ?_
      obtain rfl := Option.some.inj hr
      have ho := hBu1 _ rfl
      have st := st.front3
      have st := st.front3
      have st := st.front3
      have st := st.front3
      refine X_then_exit ?_
      exact X_env _ (by kernel_rfl) (K0_u1 _ _ ⟨(s1.2.1, s1.2.2.1, s1.2.2.2), a5, c6, a6, c7, m3, ho, rfl, hm, st, r5, r6⟩)

def testgateref13_Check_L2 (N : Nat) (x1 : ByteArray) (l1 : List (ByteArray)) (s2 : Int) : Option ((Int) ⊕ ((Unit) ⊕ (Int))) :=
  if (decide (s2 < (List.length l1 : Int))) = true then ((idx l1 s2).bind fun x2 => if (x1.toList == x2.toList) = true then (some (.inr (.inr (10)))) else (some (.inl (IntKind.wrap .i64 (s2 + 1))))) else (some (.inr (.inl ())))

def testgateref13_Check_L1 (N : Nat) (p0 : List ByteArray) (s1 : Int) : Option ((Int) ⊕ ((Unit) ⊕ (Int))) :=
  if (decide (s1 < (List.length p0 : Int))) = true then ((idx p0 s1).bind fun x1 => (subS p0 0 s1).bind fun l1 => (loopM (testgateref13_Check_L2 N x1 l1) N 0).bind fun out2 => (match out2 with | .inl o2 => some (.inl (IntKind.wrap .i64 (s1 + 1))) | .inr (z) => some (.inr (.inr (z))))) else (some (.inr (.inl ())))

def testgateref13_Check (N : Nat) (p0 : List ByteArray) : Option (Int) :=
  if (decide ((List.length p0 : Int) > 4096)) = true then (some 2) else ((loopM (testgateref13_Check_L1 N p0) N 0).bind fun out1 => (match out1 with | .inl o1 => some 0 | .inr (z) => some z))

set_option maxHeartbeats 4000000 in
set_option maxRecDepth 100000 in
theorem testgateref13_Check_ok {N : Nat} {m : Mem} {own : List Piece} {w : World} {p0 : List ByteArray} {a1 : Option Addr} {c1 : Nat} {r : Int} (st : St m (own) w) (r1 : RepS cStr m a1 c1 p0) (hr : testgateref13_Check N p0 = some r) : Calls Go.Proofs.Try.prog 18 #[.agg #[.slice a1 (List.length p0) c1]] w fun e w' => ∃ (m' : Mem), e = .returned (.int .i64 r) ∧ m.le m' ∧ St m' (own) w' := by
  unfold testgateref13_Check at hr
  have hm := m.le_refl
  refine W_calls Go.Proofs.Try.func18 rfl Go.Proofs.Try.ntmps18 [(0, .agg #[.slice a1 (List.length p0) c1])] (by kernel_rfl) rfl ?_
  refine W_seq ?_
  refine W_region ?_
  refine WO_one rfl (One_box (d := 1) (e := 24) (x := (.tmp 0)) (.agg #[.slice a1 (List.length p0) c1]) (by kernel_rfl) rfl (by kernel_rfl) st ?_)
  clear st
  intro b1 m1 w1 hle1 st hb1
  have hm := Mem.le_trans hm hle1
  have r1 := r1.mono hle1
  refine WO_seg 1 [] (by kernel_rfl) (by kernel_rfl) ?_
  refine WO_end rfl ?_
  refine X_then ?_
  refine W_seq ?_
  refine W_seq ?_
  refine W_region ?_
  refine WO_seg 1 [(7, .pointer (some ⟨b1, 0, none⟩))] (by kernel_rfl) (by kernel_rfl) ?_
  refine WO_one rfl (One_load_row (d := 8) (t := 22) (x := (.tmp 7)) (.slice a1 (List.length p0) c1) (by kernel_rfl) rfl (show evL _ _ = some (.pointer (some ⟨b1, 0, none⟩)) from (by kernel_rfl)) st hb1 (by kernel_rfl) ?_)
  refine WO_seg 2 [(10, .bool (decide ((List.length p0 : Int) > 4096)))] (by kernel_rfl) (by kernel_rfl) ?_
  refine WO_end rfl ?_
  refine X_then ?_
  refine W_cond (decide ((List.length p0 : Int) > 4096)) (by kernel_rfl) ?_ ?_
  · intro hc
    rw [if_pos hc] at hr
    refine W_seq ?_
    refine W_region ?_
    refine WO_seg 1 [(2, .int .i64 2)] (by kernel_rfl) (by kernel_rfl) ?_
    refine WO_end rfl ?_
    refine X_then ?_
    refine W_ret ?_
    refine X_then_ret ?_
    obtain rfl := Option.some.inj hr
    refine X_ret [.tmp 2] [.int .i64 2] rfl (ResAll.cons (ResAt.tmp (by kernel_rfl)) ResAll.nil) ?_
    exact ⟨m1, rfl, hm, st⟩
  · intro hc
    rw [if_neg (not_true hc)] at hr
    refine W_skip ?_
    refine X_then ?_
    refine W_seq ?_
    refine W_seq ?_
    refine W_region ?_
    refine WO_seg 1 [(11, .pointer (some ⟨b1, 0, none⟩))] (by kernel_rfl) (by kernel_rfl) ?_
    refine WO_one rfl (One_load_row (d := 12) (t := 22) (x := (.tmp 11)) (.slice a1 (List.length p0) c1) (by kernel_rfl) rfl (show evL _ _ = some (.pointer (some ⟨b1, 0, none⟩)) from (by kernel_rfl)) st hb1 (by kernel_rfl) ?_)
    refine WO_seg 2 [(13, .int .i64 (List.length p0 : Int)), (14, .int .i64 0)] (by kernel_rfl) (by kernel_rfl) ?_
    refine WO_end rfl ?_
    refine X_then ?_
    refine W_block ?_
    replace hr := bindS hr
    obtain ⟨out1, hr, hrKu1⟩ := hr
    refine W_cut (.exit 0) (fun L' w' => ∃ (o1 : Unit) (m2 : Mem), (.inl o1) = out1 ∧ L' = [] ∧ m.le m2 ∧ St m2 (own) w') ?_ ?_
    · clear hr st
      rintro _ w2 ⟨o1, m2, rfl, rfl, hm, st⟩
      have hr := hrKu1
      clear hrKu1
      dsimp only at hr
      refine X_block_eq ?_
      refine X_then ?_
      refine W_seq ?_
      refine W_region ?_
      refine WO_seg 1 [(2, .int .i64 0)] (by kernel_rfl) (by kernel_rfl) ?_
      refine WO_end rfl ?_
      refine X_then ?_
      refine W_ret ?_
      obtain rfl := Option.some.inj hr
      refine X_ret [.tmp 2] [.int .i64 0] rfl (ResAll.cons (ResAt.tmp (by kernel_rfl)) ResAll.nil) ?_
      exact ⟨m2, rfl, hm, st⟩
    intro K0_u1
    refine W_env _ (by kernel_rfl) (W_loop (fun k1 L' w' => ∃ (s1 : Int) (m3 : Mem), loopM (testgateref13_Check_L1 N p0) k1 s1 = some out1 ∧ L' = [(1, .pointer (some ⟨b1, 0, none⟩)), (12, .slice a1 (List.length p0) c1), (13, .int .i64 (List.length p0 : Int)), (14, .int .i64 s1)] ∧ m.le m3 ∧ St m3 (own) w' ∧ MRow m3 b1 0 [.slice a1 (List.length p0) c1] ∧ RepS cStr m3 a1 c1 p0) N ⟨0, m1, hr, rfl, hm, st, hb1, r1⟩ ?_)
    clear st hr
    rintro k1 _ w3 ⟨s1, m3, hL, rfl, hm, st, hb1, r1⟩
    rcases k1 with _ | k1
    · exact loopM_zero hL
    · obtain ⟨qu1, hr, hSu1, hBu1⟩ := loopM_succ hL
      clear hL
      unfold testgateref13_Check_L1 at hr
      refine W_seq ?_
      refine W_region ?_
      refine WO_seg 1 [(15, .bool (decide (s1 < (List.length p0 : Int))))] (by kernel_rfl) (by kernel_rfl) ?_
      refine WO_end rfl ?_
      refine X_then ?_
      refine W_seq ?_
      refine W_cond (decide (s1 < (List.length p0 : Int))) (by kernel_rfl) ?_ ?_
      · intro hc
        rw [if_pos hc] at hr
        refine W_skip ?_
        refine X_then ?_
        refine W_seq ?_
        refine W_block ?_
        refine W_seq ?_
        refine W_region ?_
        refine WO_seg 1 [(16, .int .i64 s1)] (by kernel_rfl) (by kernel_rfl) ?_
        replace hr := bindS hr
        obtain ⟨x1, hx1, hr⟩ := hr
        refine WO_one rfl (One_index (d := 17) (t := 22) (e := 9) (x := (.tmp 12)) (y := (.tmp 14)) cStr (by kernel_rfl) rfl (show evL _ _ = some (.slice a1 (List.length p0) c1) from (by kernel_rfl)) (show evL _ _ = some (.int .i64 s1) from (by kernel_rfl)) (by kernel_rfl) r1 hx1 ?_)
        rintro b2 f1 cs1 rfl hq1
        refine WO_one rfl (One_load_row (d := 18) (t := 9) (x := (.tmp 17)) (.string x1) (by kernel_rfl) rfl (show evL _ _ = some (.pointer (some ⟨b2, f1, none⟩)) from (by kernel_rfl)) st hq1 (by kernel_rfl) ?_)
        refine WO_seg 2 [(3, .int .i64 s1), (4, .string x1)] (by kernel_rfl) (by kernel_rfl) ?_
        refine WO_end rfl ?_
        refine X_then ?_
        refine W_seq ?_
        refine W_region ?_
        refine WO_seg 1 [(19, .pointer (some ⟨b1, 0, none⟩))] (by kernel_rfl) (by kernel_rfl) ?_
        refine WO_one rfl (One_load_row (d := 20) (t := 22) (x := (.tmp 19)) (.slice a1 (List.length p0) c1) (by kernel_rfl) rfl (show evL _ _ = some (.pointer (some ⟨b1, 0, none⟩)) from (by kernel_rfl)) st hb1 (by kernel_rfl) ?_)
        refine WO_seg 1 [(21, .int .i64 s1)] (by kernel_rfl) (by kernel_rfl) ?_
        replace hr := bindS hr
        obtain ⟨l1, hx2, hr⟩ := hr
        refine WO_one rfl (One_slice (d := 22) (t := 22) (e := 9) (x := (.tmp 20)) (lo := none) (hi := (some (.tmp 21))) cStr (by kernel_rfl) rfl (show evL _ _ = some (.slice a1 (List.length p0) c1) from (by kernel_rfl)) (by kernel_rfl) r1 (.inl ⟨rfl, rfl⟩) (.inr ⟨_, _, rfl, (show evL _ _ = some (.int .i64 s1) from (by kernel_rfl))⟩) hx2 ?_)
        intro a2 c2 r2
        refine WO_seg 2 [(23, .int .i64 (List.length l1 : Int)), (24, .int .i64 0)] (by kernel_rfl) (by kernel_rfl) ?_
        refine WO_end rfl ?_
        refine X_then ?_
        refine W_block ?_
        replace hr := bindS hr
        obtain ⟨out2, hr, hrKu2⟩ := hr
        refine W_cut (.exit 2) (fun L' w' => ∃ (o2 : Unit) (m4 : Mem), (.inl o2) = out2 ∧ L' = [(1, .pointer (some ⟨b1, 0, none⟩)), (12, .slice a1 (List.length p0) c1), (13, .int .i64 (List.length p0 : Int)), (14, .int .i64 s1)] ∧ m.le m4 ∧ St m4 (own) w' ∧ MRow m4 b1 0 [.slice a1 (List.length p0) c1] ∧ RepS cStr m4 a1 c1 p0) ?_ ?_
        · clear hr st
          rintro _ w4 ⟨o2, m4, rfl, rfl, hm, st, hb1, r1⟩
          have hr := hrKu2
          clear hrKu2
          dsimp only at hr
          refine X_block_eq ?_
          refine X_block ?_
          refine X_then ?_
          refine W_region ?_
          refine WO_seg 2 [(14, .int .i64 (IntKind.wrap .i64 (s1 + 1)))] (by kernel_rfl) (by kernel_rfl) ?_
          refine WO_end rfl ?_
          obtain rfl := Option.some.inj hr
          have hL := hSu1 _ rfl
          exact X_env _ (by kernel_rfl) (X_round k1 (Nat.lt_succ_self _) ⟨IntKind.wrap .i64 (s1 + 1), m4, hL, rfl, hm, st, hb1, r1⟩)
        intro K2_u2
        refine W_env _ (by kernel_rfl) (W_loop (fun k2 L' w' => ∃ (s2 : Int) (m5 : Mem), loopM (testgateref13_Check_L2 N x1 l1) k2 s2 = some out2 ∧ L' = [(1, .pointer (some ⟨b1, 0, none⟩)), (4, .string x1), (12, .slice a1 (List.length p0) c1), (13, .int .i64 (List.length p0 : Int)), (14, .int .i64 s1), (22, .slice a2 (List.length l1) c2), (23, .int .i64 (List.length l1 : Int)), (24, .int .i64 s2)] ∧ m.le m5 ∧ St m5 (own) w' ∧ MRow m5 b1 0 [.slice a1 (List.length p0) c1] ∧ RepS cStr m5 a1 c1 p0 ∧ RepS cStr m5 a2 c2 l1) N ⟨0, m3, hr, rfl, hm, st, hb1, r1, r2⟩ ?_)
        clear st hr
        rintro k2 _ w5 ⟨s2, m5, hL, rfl, hm, st, hb1, r1, r2⟩
        rcases k2 with _ | k2
        · exact loopM_zero hL
        · obtain ⟨qu2, hr, hSu2, hBu2⟩ := loopM_succ hL
          clear hL
          unfold testgateref13_Check_L2 at hr
          refine W_seq ?_
          refine W_region ?_
          refine WO_seg 1 [(25, .bool (decide (s2 < (List.length l1 : Int))))] (by kernel_rfl) (by kernel_rfl) ?_
          refine WO_end rfl ?_
          refine X_then ?_
          refine W_seq ?_
          refine W_cond (decide (s2 < (List.length l1 : Int))) (by kernel_rfl) ?_ ?_
          · intro hc
            rw [if_pos hc] at hr
            refine W_skip ?_
            refine X_then ?_
            refine W_seq ?_
            refine W_block ?_
            refine W_seq ?_
            refine W_region ?_
            replace hr := bindS hr
            obtain ⟨x2, hx3, hr⟩ := hr
            refine WO_one rfl (One_index (d := 26) (t := 22) (e := 9) (x := (.tmp 22)) (y := (.tmp 24)) cStr (by kernel_rfl) rfl (show evL _ _ = some (.slice a2 (List.length l1) c2) from (by kernel_rfl)) (show evL _ _ = some (.int .i64 s2) from (by kernel_rfl)) (by kernel_rfl) r2 hx3 ?_)
            rintro b3 f2 cs2 rfl hq2
            refine WO_one rfl (One_load_row (d := 27) (t := 9) (x := (.tmp 26)) (.string x2) (by kernel_rfl) rfl (show evL _ _ = some (.pointer (some ⟨b3, f2, none⟩)) from (by kernel_rfl)) st hq2 (by kernel_rfl) ?_)
            refine WO_seg 1 [(6, .string x2)] (by kernel_rfl) (by kernel_rfl) ?_
            refine WO_end rfl ?_
            refine X_then ?_
            refine W_seq ?_
            refine W_region ?_
            refine WO_seg 3 [(30, .bool (x1.toList == x2.toList))] (by kernel_rfl) (by kernel_rfl) ?_
            refine WO_end rfl ?_
            refine X_then ?_
            refine W_cond (x1.toList == x2.toList) (by kernel_rfl) ?_ ?_
            · intro hc
              rw [if_pos hc] at hr
              refine W_seq ?_
              refine W_region ?_
              refine WO_seg 1 [(2, .int .i64 10)] (by kernel_rfl) (by kernel_rfl) ?_
              refine WO_end rfl ?_
              refine X_then ?_
              refine W_ret ?_
              refine X_block_ret ?_
              refine X_then_ret ?_
              obtain rfl := Option.some.inj hr
              have ho := hBu2 _ rfl
              subst ho
              have hr := hrKu2
              dsimp only at hr
              refine X_then_ret ?_
              refine X_block_ret ?_
              refine X_block_ret ?_
              refine X_then_ret ?_
              obtain rfl := Option.some.inj hr
              have ho := hBu1 _ rfl
              subst ho
              have hr := hrKu1
              dsimp only at hr
              refine X_then_ret ?_
              refine X_block_ret ?_
              refine X_then_ret ?_
              obtain rfl := Option.some.inj hr
              refine X_ret [.tmp 2] [.int .i64 10] rfl (ResAll.cons (ResAt.tmp (by kernel_rfl)) ResAll.nil) ?_
              exact ⟨m5, rfl, hm, st⟩
            · intro hc
              rw [if_neg (not_true hc)] at hr
              refine W_skip ?_
              refine X_block ?_
              refine X_then ?_
              refine W_region ?_
              refine WO_seg 2 [(24, .int .i64 (IntKind.wrap .i64 (s2 + 1)))] (by kernel_rfl) (by kernel_rfl) ?_
              refine WO_end rfl ?_
              obtain rfl := Option.some.inj hr
              have hL := hSu2 _ rfl
              exact X_env _ (by kernel_rfl) (X_round k2 (Nat.lt_succ_self _) ⟨IntKind.wrap .i64 (s2 + 1), m5, hL, rfl, hm, st, hb1, r1, r2⟩)
          · intro hc
            rw [if_neg (not_true hc)] at hr
            refine W_exit ?_
            refine X_then_exit ?_
            obtain rfl := Option.some.inj hr
            have ho := hBu2 _ rfl
            refine X_then_exit ?_
            exact X_env _ (by kernel_rfl) (K2_u2 _ _ ⟨(), m5, ho, rfl, hm, st, hb1, r1⟩)
      · intro hc
        rw [if_neg (not_true hc)] at hr
        refine W_exit ?_
        refine X_then_exit ?_
        obtain rfl := Option.some.inj hr
        have ho := hBu1 _ rfl
        refine X_then_exit ?_
        exact X_env _ (by kernel_rfl) (K0_u1 _ _ ⟨(), m3, ho, rfl, hm, st⟩)

def slices_Index_string_string_L1 (N : Nat) (p0 : List ByteArray) (p1 : ByteArray) (s1 : Int) : Option ((Int) ⊕ ((Unit) ⊕ (Int))) :=
  if (decide (s1 < (List.length p0 : Int))) = true then ((idx p0 s1).bind fun x1 => if (p1.toList == x1.toList) = true then (some (.inr (.inr (s1)))) else (some (.inl (IntKind.wrap .i64 (s1 + 1))))) else (some (.inr (.inl ())))

def slices_Index_string_string (N : Nat) (p0 : List ByteArray) (p1 : ByteArray) : Option (Int) :=
  (loopM (slices_Index_string_string_L1 N p0 p1) N 0).bind fun out1 => (match out1 with | .inl o1 => some (-1) | .inr (z) => some z)

set_option maxHeartbeats 4000000 in
set_option maxRecDepth 100000 in
theorem slices_Index_string_string_ok {N : Nat} {m : Mem} {own : List Piece} {w : World} {p0 : List ByteArray} {p1 : ByteArray} {a1 : Option Addr} {c1 : Nat} {r : Int} (st : St m (own) w) (r1 : RepS cStr m a1 c1 p0) (hr : slices_Index_string_string N p0 p1 = some r) : Calls Go.Proofs.Try.prog 64 #[.slice a1 (List.length p0) c1, .string p1] w fun e w' => ∃ (m' : Mem), e = .returned (.int .i64 r) ∧ m.le m' ∧ St m' (own) w' := by
  unfold slices_Index_string_string at hr
  have hm := m.le_refl
  refine W_calls Go.Proofs.Try.func64 rfl Go.Proofs.Try.ntmps64 [(0, .slice a1 (List.length p0) c1), (1, .string p1)] (by kernel_rfl) rfl ?_
  refine W_seq ?_
  refine W_region ?_
  refine WO_seg 1 [] (by kernel_rfl) (by kernel_rfl) ?_
  refine WO_end rfl ?_
  refine X_then ?_
  refine W_seq ?_
  refine W_seq ?_
  refine W_region ?_
  refine WO_seg 3 [(7, .int .i64 (List.length p0 : Int)), (8, .int .i64 0)] (by kernel_rfl) (by kernel_rfl) ?_
  refine WO_end rfl ?_
  refine X_then ?_
  refine W_block ?_
  replace hr := bindS hr
  obtain ⟨out1, hr, hrKu1⟩ := hr
  refine W_cut (.exit 0) (fun L' w' => ∃ (o1 : Unit) (m1 : Mem), (.inl o1) = out1 ∧ L' = [] ∧ m.le m1 ∧ St m1 (own) w') ?_ ?_
  · clear hr st
    rintro _ w1 ⟨o1, m1, rfl, rfl, hm, st⟩
    have hr := hrKu1
    clear hrKu1
    dsimp only at hr
    refine X_block_eq ?_
    refine X_then ?_
    refine W_seq ?_
    refine W_region ?_
    refine WO_seg 1 [(4, .int .i64 (-1))] (by kernel_rfl) (by kernel_rfl) ?_
    refine WO_end rfl ?_
    refine X_then ?_
    refine W_ret ?_
    obtain rfl := Option.some.inj hr
    refine X_ret [.tmp 4] [.int .i64 (-1)] rfl (ResAll.cons (ResAt.tmp (by kernel_rfl)) ResAll.nil) ?_
    exact ⟨m1, rfl, hm, st⟩
  intro K0_u1
  refine W_env _ (by kernel_rfl) (W_loop (fun k1 L' w' => ∃ (s1 : Int) (m2 : Mem), loopM (slices_Index_string_string_L1 N p0 p1) k1 s1 = some out1 ∧ L' = [(0, .slice a1 (List.length p0) c1), (1, .string p1), (7, .int .i64 (List.length p0 : Int)), (8, .int .i64 s1)] ∧ m.le m2 ∧ St m2 (own) w' ∧ RepS cStr m2 a1 c1 p0) N ⟨0, m, hr, rfl, hm, st, r1⟩ ?_)
  clear st hr
  rintro k1 _ w2 ⟨s1, m2, hL, rfl, hm, st, r1⟩
  rcases k1 with _ | k1
  · exact loopM_zero hL
  · obtain ⟨qu1, hr, hSu1, hBu1⟩ := loopM_succ hL
    clear hL
    unfold slices_Index_string_string_L1 at hr
    refine W_seq ?_
    refine W_region ?_
    refine WO_seg 1 [(9, .bool (decide (s1 < (List.length p0 : Int))))] (by kernel_rfl) (by kernel_rfl) ?_
    refine WO_end rfl ?_
    refine X_then ?_
    refine W_seq ?_
    refine W_cond (decide (s1 < (List.length p0 : Int))) (by kernel_rfl) ?_ ?_
    · intro hc
      rw [if_pos hc] at hr
      refine W_skip ?_
      refine X_then ?_
      refine W_seq ?_
      refine W_block ?_
      refine W_seq ?_
      refine W_region ?_
      refine WO_seg 2 [(5, .int .i64 s1)] (by kernel_rfl) (by kernel_rfl) ?_
      refine WO_end rfl ?_
      refine X_then ?_
      refine W_seq ?_
      refine W_region ?_
      refine WO_seg 3 [(11, .string p1), (12, .slice a1 (List.length p0) c1), (13, .int .i64 s1)] (by kernel_rfl) (by kernel_rfl) ?_
      replace hr := bindS hr
      obtain ⟨x1, hx1, hr⟩ := hr
      refine WO_one rfl (One_index (d := 14) (t := 22) (e := 9) (x := (.tmp 12)) (y := (.tmp 13)) cStr (by kernel_rfl) rfl (show evL _ _ = some (.slice a1 (List.length p0) c1) from (by kernel_rfl)) (show evL _ _ = some (.int .i64 s1) from (by kernel_rfl)) (by kernel_rfl) r1 hx1 ?_)
      rintro b1 f1 cs1 rfl hq1
      refine WO_one rfl (One_load_row (d := 15) (t := 9) (x := (.tmp 14)) (.string x1) (by kernel_rfl) rfl (show evL _ _ = some (.pointer (some ⟨b1, f1, none⟩)) from (by kernel_rfl)) st hq1 (by kernel_rfl) ?_)
      refine WO_seg 1 [(16, .bool (p1.toList == x1.toList))] (by kernel_rfl) (by kernel_rfl) ?_
      refine WO_end rfl ?_
      refine X_then ?_
      refine W_cond (p1.toList == x1.toList) (by kernel_rfl) ?_ ?_
      · intro hc
        rw [if_pos hc] at hr
        refine W_seq ?_
        refine W_region ?_
        refine WO_seg 2 [(4, .int .i64 s1)] (by kernel_rfl) (by kernel_rfl) ?_
        refine WO_end rfl ?_
        refine X_then ?_
        refine W_ret ?_
        refine X_block_ret ?_
        refine X_then_ret ?_
        obtain rfl := Option.some.inj hr
        have ho := hBu1 _ rfl
        subst ho
        have hr := hrKu1
        dsimp only at hr
        refine X_then_ret ?_
        refine X_block_ret ?_
        refine X_then_ret ?_
        obtain rfl := Option.some.inj hr
        refine X_ret [.tmp 4] [.int .i64 s1] rfl (ResAll.cons (ResAt.tmp (by kernel_rfl)) ResAll.nil) ?_
        exact ⟨m2, rfl, hm, st⟩
      · intro hc
        rw [if_neg (not_true hc)] at hr
        refine W_skip ?_
        refine X_block ?_
        refine X_then ?_
        refine W_region ?_
        refine WO_seg 2 [(8, .int .i64 (IntKind.wrap .i64 (s1 + 1)))] (by kernel_rfl) (by kernel_rfl) ?_
        refine WO_end rfl ?_
        obtain rfl := Option.some.inj hr
        have hL := hSu1 _ rfl
        exact X_env _ (by kernel_rfl) (X_round k1 (Nat.lt_succ_self _) ⟨IntKind.wrap .i64 (s1 + 1), m2, hL, rfl, hm, st, r1⟩)
    · intro hc
      rw [if_neg (not_true hc)] at hr
      refine W_exit ?_
      refine X_then_exit ?_
      obtain rfl := Option.some.inj hr
      have ho := hBu1 _ rfl
      refine X_then_exit ?_
      exact X_env _ (by kernel_rfl) (K0_u1 _ _ ⟨(), m2, ho, rfl, hm, st⟩)

def contents_Find (N : Nat) (p0 : List ByteArray) (p1 : ByteArray) : Option (Int × Bool) :=
  (contents_Check N p0).bind fun y1 => if (y1 != 0) = true then (some (0, false)) else ((slices_Index_string_string N p0 p1).bind fun y2 => some (if 0 > y2 then 0 else y2, decide (y2 ≥ 0)))

set_option maxHeartbeats 4000000 in
set_option maxRecDepth 100000 in
theorem contents_Find_ok {N : Nat} {m : Mem} {own : List Piece} {w : World} {p0 : List ByteArray} {p1 : ByteArray} {a1 : Option Addr} {c1 : Nat} {r : Int × Bool} (st : St m (own) w) (r1 : RepS cStr m a1 c1 p0) (hr : contents_Find N p0 p1 = some r) : Calls Go.Proofs.Try.prog 19 #[.agg #[.slice a1 (List.length p0) c1], .string p1] w fun e w' => ∃ (m' : Mem), e = .returned (.tuple #[.int .i64 r.1, .bool r.2]) ∧ m.le m' ∧ St m' (own) w' := by
  unfold contents_Find at hr
  have hm := m.le_refl
  refine W_calls Go.Proofs.Try.func19 rfl Go.Proofs.Try.ntmps19 [(0, .agg #[.slice a1 (List.length p0) c1]), (1, .string p1)] (by kernel_rfl) rfl ?_
  refine W_seq ?_
  refine W_region ?_
  refine WO_one rfl (One_box (d := 2) (e := 24) (x := (.tmp 0)) (.agg #[.slice a1 (List.length p0) c1]) (by kernel_rfl) rfl (by kernel_rfl) st ?_)
  clear st
  intro b1 m1 w1 hle1 st hb1
  have hm := Mem.le_trans hm hle1
  have r1 := r1.mono hle1
  refine WO_seg 2 [] (by kernel_rfl) (by kernel_rfl) ?_
  refine WO_end rfl ?_
  refine X_then ?_
  refine W_seq ?_
  refine W_seq ?_
  refine W_region ?_
  refine WO_one rfl (One_load_row (d := 7) (t := 24) (x := (.tmp 2)) (.agg #[.slice a1 (List.length p0) c1]) (by kernel_rfl) rfl (show evL _ _ = some (.pointer (some ⟨b1, 0, none⟩)) from (by kernel_rfl)) st hb1 (by kernel_rfl) ?_)
  replace hr := bindS hr
  obtain ⟨y1, hx1, hr⟩ := hr
  refine WO_one rfl (One_fn 8 14 #[.agg #[.slice a1 (List.length p0) c1]] (by kernel_rfl) rfl ?_)
  refine (contents_Check_ok st r1 hx1).mono ?_
  clear st
  rintro _ w2 ⟨m2, rfl, hle2, st⟩
  refine ⟨_, rfl, ?_⟩
  have hm := Mem.le_trans hm hle2
  have hb1 := hb1.mono hle2
  have r1 := r1.mono hle2
  refine WO_seg 1 [(9, .bool (y1 != 0))] (by kernel_rfl) (by kernel_rfl) ?_
  refine WO_end rfl ?_
  refine X_then ?_
  refine W_cond (y1 != 0) (by kernel_rfl) ?_ ?_
  · intro hc
    rw [if_pos hc] at hr
    refine W_seq ?_
    refine W_region ?_
    refine WO_seg 2 [(4, .int .i64 0), (5, .bool false)] (by kernel_rfl) (by kernel_rfl) ?_
    refine WO_end rfl ?_
    refine X_then ?_
    refine W_ret ?_
    refine X_then_ret ?_
    obtain rfl := Option.some.inj hr
    refine X_ret [.tmp 4, .tmp 5] [.int .i64 0, .bool false] rfl (ResAll.cons (ResAt.tmp (by kernel_rfl)) (ResAll.cons (ResAt.tmp (by kernel_rfl)) ResAll.nil)) ?_
    exact ⟨m2, rfl, hm, st⟩
  · intro hc
    rw [if_neg (not_true hc)] at hr
    refine W_skip ?_
    refine X_then ?_
    refine W_seq ?_
    refine W_region ?_
    refine WO_seg 1 [(10, .pointer (some ⟨b1, 0, none⟩))] (by kernel_rfl) (by kernel_rfl) ?_
    refine WO_one rfl (One_load_row (d := 11) (t := 22) (x := (.tmp 10)) (.slice a1 (List.length p0) c1) (by kernel_rfl) rfl (show evL _ _ = some (.pointer (some ⟨b1, 0, none⟩)) from (by kernel_rfl)) st hb1 (by kernel_rfl) ?_)
    refine WO_seg 1 [(12, .string p1)] (by kernel_rfl) (by kernel_rfl) ?_
    replace hr := bindS hr
    obtain ⟨y2, hx2, hr⟩ := hr
    refine WO_one rfl (One_fn 13 64 #[.slice a1 (List.length p0) c1, .string p1] (by kernel_rfl) rfl ?_)
    refine (slices_Index_string_string_ok st r1 hx2).mono ?_
    clear st
    rintro _ w3 ⟨m3, rfl, hle3, st⟩
    refine ⟨_, rfl, ?_⟩
    have hm := Mem.le_trans hm hle3
    have hb1 := hb1.mono hle3
    have r1 := r1.mono hle3
    refine WO_seg 1 [(6, .int .i64 y2)] (by kernel_rfl) (by kernel_rfl) ?_
    refine WO_end rfl ?_
    refine X_then ?_
    refine W_seq ?_
    refine W_region ?_
    refine WO_seg 6 [(4, .int .i64 (if 0 > y2 then 0 else y2)), (5, .bool (decide (y2 ≥ 0)))] (by kernel_rfl) (by kernel_rfl) ?_
    refine WO_end rfl ?_
    refine X_then ?_
    refine W_ret ?_
    obtain rfl := Option.some.inj hr
    refine X_ret [.tmp 4, .tmp 5] [.int .i64 (if 0 > y2 then 0 else y2), .bool (decide (y2 ≥ 0))] rfl (ResAll.cons (ResAt.tmp (by kernel_rfl)) (ResAll.cons (ResAt.tmp (by kernel_rfl)) ResAll.nil)) ?_
    exact ⟨m3, rfl, hm, st⟩

def testgateref13_find_L1 (N : Nat) (p0 : List ByteArray) (p1 : ByteArray) (s1 : Int) : Option ((Int) ⊕ ((Unit) ⊕ (Int))) :=
  if (decide (s1 < (List.length p0 : Int))) = true then ((idx p0 s1).bind fun x1 => if (x1.toList == p1.toList) = true then (some (.inr (.inr (s1)))) else (some (.inl (IntKind.wrap .i64 (s1 + 1))))) else (some (.inr (.inl ())))

def testgateref13_find (N : Nat) (p0 : List ByteArray) (p1 : ByteArray) : Option (Int) :=
  (loopM (testgateref13_find_L1 N p0 p1) N 0).bind fun out1 => (match out1 with | .inl o1 => some (-1) | .inr (z) => some z)

set_option maxHeartbeats 4000000 in
set_option maxRecDepth 100000 in
theorem testgateref13_find_ok {N : Nat} {m : Mem} {own : List Piece} {w : World} {p0 : List ByteArray} {p1 : ByteArray} {a1 : Option Addr} {c1 : Nat} {r : Int} (st : St m (own) w) (r1 : RepS cStr m a1 c1 p0) (hr : testgateref13_find N p0 p1 = some r) : Calls Go.Proofs.Try.prog 65 #[.agg #[.slice a1 (List.length p0) c1], .string p1] w fun e w' => ∃ (m' : Mem), e = .returned (.int .i64 r) ∧ m.le m' ∧ St m' (own) w' := by
  unfold testgateref13_find at hr
  have hm := m.le_refl
  refine W_calls Go.Proofs.Try.func65 rfl Go.Proofs.Try.ntmps65 [(0, .agg #[.slice a1 (List.length p0) c1]), (1, .string p1)] (by kernel_rfl) rfl ?_
  refine W_seq ?_
  refine W_region ?_
  refine WO_one rfl (One_box (d := 2) (e := 24) (x := (.tmp 0)) (.agg #[.slice a1 (List.length p0) c1]) (by kernel_rfl) rfl (by kernel_rfl) st ?_)
  clear st
  intro b1 m1 w1 hle1 st hb1
  have hm := Mem.le_trans hm hle1
  have r1 := r1.mono hle1
  refine WO_seg 1 [] (by kernel_rfl) (by kernel_rfl) ?_
  refine WO_end rfl ?_
  refine X_then ?_
  refine W_seq ?_
  refine W_seq ?_
  refine W_region ?_
  refine WO_seg 1 [(7, .pointer (some ⟨b1, 0, none⟩))] (by kernel_rfl) (by kernel_rfl) ?_
  refine WO_one rfl (One_load_row (d := 8) (t := 22) (x := (.tmp 7)) (.slice a1 (List.length p0) c1) (by kernel_rfl) rfl (show evL _ _ = some (.pointer (some ⟨b1, 0, none⟩)) from (by kernel_rfl)) st hb1 (by kernel_rfl) ?_)
  refine WO_seg 2 [(9, .int .i64 (List.length p0 : Int)), (10, .int .i64 0)] (by kernel_rfl) (by kernel_rfl) ?_
  refine WO_end rfl ?_
  refine X_then ?_
  refine W_block ?_
  replace hr := bindS hr
  obtain ⟨out1, hr, hrKu1⟩ := hr
  refine W_cut (.exit 0) (fun L' w' => ∃ (o1 : Unit) (m2 : Mem), (.inl o1) = out1 ∧ L' = [] ∧ m.le m2 ∧ St m2 (own) w') ?_ ?_
  · clear hr st
    rintro _ w2 ⟨o1, m2, rfl, rfl, hm, st⟩
    have hr := hrKu1
    clear hrKu1
    dsimp only at hr
    refine X_block_eq ?_
    refine X_then ?_
    refine W_seq ?_
    refine W_region ?_
    refine WO_seg 1 [(4, .int .i64 (-1))] (by kernel_rfl) (by kernel_rfl) ?_
    refine WO_end rfl ?_
    refine X_then ?_
    refine W_ret ?_
    obtain rfl := Option.some.inj hr
    refine X_ret [.tmp 4] [.int .i64 (-1)] rfl (ResAll.cons (ResAt.tmp (by kernel_rfl)) ResAll.nil) ?_
    exact ⟨m2, rfl, hm, st⟩
  intro K0_u1
  refine W_env _ (by kernel_rfl) (W_loop (fun k1 L' w' => ∃ (s1 : Int) (m3 : Mem), loopM (testgateref13_find_L1 N p0 p1) k1 s1 = some out1 ∧ L' = [(1, .string p1), (8, .slice a1 (List.length p0) c1), (9, .int .i64 (List.length p0 : Int)), (10, .int .i64 s1)] ∧ m.le m3 ∧ St m3 (own) w' ∧ RepS cStr m3 a1 c1 p0) N ⟨0, m1, hr, rfl, hm, st, r1⟩ ?_)
  clear st hr
  rintro k1 _ w3 ⟨s1, m3, hL, rfl, hm, st, r1⟩
  rcases k1 with _ | k1
  · exact loopM_zero hL
  · obtain ⟨qu1, hr, hSu1, hBu1⟩ := loopM_succ hL
    clear hL
    unfold testgateref13_find_L1 at hr
    refine W_seq ?_
    refine W_region ?_
    refine WO_seg 1 [(11, .bool (decide (s1 < (List.length p0 : Int))))] (by kernel_rfl) (by kernel_rfl) ?_
    refine WO_end rfl ?_
    refine X_then ?_
    refine W_seq ?_
    refine W_cond (decide (s1 < (List.length p0 : Int))) (by kernel_rfl) ?_ ?_
    · intro hc
      rw [if_pos hc] at hr
      refine W_skip ?_
      refine X_then ?_
      refine W_seq ?_
      refine W_block ?_
      refine W_seq ?_
      refine W_region ?_
      refine WO_seg 1 [(12, .int .i64 s1)] (by kernel_rfl) (by kernel_rfl) ?_
      replace hr := bindS hr
      obtain ⟨x1, hx1, hr⟩ := hr
      refine WO_one rfl (One_index (d := 13) (t := 22) (e := 9) (x := (.tmp 8)) (y := (.tmp 10)) cStr (by kernel_rfl) rfl (show evL _ _ = some (.slice a1 (List.length p0) c1) from (by kernel_rfl)) (show evL _ _ = some (.int .i64 s1) from (by kernel_rfl)) (by kernel_rfl) r1 hx1 ?_)
      rintro b2 f1 cs1 rfl hq1
      refine WO_one rfl (One_load_row (d := 14) (t := 9) (x := (.tmp 13)) (.string x1) (by kernel_rfl) rfl (show evL _ _ = some (.pointer (some ⟨b2, f1, none⟩)) from (by kernel_rfl)) st hq1 (by kernel_rfl) ?_)
      refine WO_seg 2 [(5, .int .i64 s1), (6, .string x1)] (by kernel_rfl) (by kernel_rfl) ?_
      refine WO_end rfl ?_
      refine X_then ?_
      refine W_seq ?_
      refine W_region ?_
      refine WO_seg 3 [(17, .bool (x1.toList == p1.toList))] (by kernel_rfl) (by kernel_rfl) ?_
      refine WO_end rfl ?_
      refine X_then ?_
      refine W_cond (x1.toList == p1.toList) (by kernel_rfl) ?_ ?_
      · intro hc
        rw [if_pos hc] at hr
        refine W_seq ?_
        refine W_region ?_
        refine WO_seg 2 [(4, .int .i64 s1)] (by kernel_rfl) (by kernel_rfl) ?_
        refine WO_end rfl ?_
        refine X_then ?_
        refine W_ret ?_
        refine X_block_ret ?_
        refine X_then_ret ?_
        obtain rfl := Option.some.inj hr
        have ho := hBu1 _ rfl
        subst ho
        have hr := hrKu1
        dsimp only at hr
        refine X_then_ret ?_
        refine X_block_ret ?_
        refine X_then_ret ?_
        obtain rfl := Option.some.inj hr
        refine X_ret [.tmp 4] [.int .i64 s1] rfl (ResAll.cons (ResAt.tmp (by kernel_rfl)) ResAll.nil) ?_
        exact ⟨m3, rfl, hm, st⟩
      · intro hc
        rw [if_neg (not_true hc)] at hr
        refine W_skip ?_
        refine X_block ?_
        refine X_then ?_
        refine W_region ?_
        refine WO_seg 2 [(10, .int .i64 (IntKind.wrap .i64 (s1 + 1)))] (by kernel_rfl) (by kernel_rfl) ?_
        refine WO_end rfl ?_
        obtain rfl := Option.some.inj hr
        have hL := hSu1 _ rfl
        exact X_env _ (by kernel_rfl) (X_round k1 (Nat.lt_succ_self _) ⟨IntKind.wrap .i64 (s1 + 1), m3, hL, rfl, hm, st, r1⟩)
    · intro hc
      rw [if_neg (not_true hc)] at hr
      refine W_exit ?_
      refine X_then_exit ?_
      obtain rfl := Option.some.inj hr
      have ho := hBu1 _ rfl
      refine X_then_exit ?_
      exact X_env _ (by kernel_rfl) (K0_u1 _ _ ⟨(), m3, ho, rfl, hm, st⟩)

def testgateref13_Find (N : Nat) (p0 : List ByteArray) (p1 : ByteArray) : Option (Int × Bool) :=
  (testgateref13_find N p0 p1).bind fun y1 => ((testgateref13_Check N p0).bind fun y2 => if (y2 == 0) = true then (some (decide (y1 ≥ 0))) else (some false) : Option (Bool)).bind fun o1 => if o1 = true then (some (y1, true)) else (some (0, false))

set_option maxHeartbeats 4000000 in
set_option maxRecDepth 100000 in
theorem testgateref13_Find_ok {N : Nat} {m : Mem} {own : List Piece} {w : World} {p0 : List ByteArray} {p1 : ByteArray} {a1 : Option Addr} {c1 : Nat} {r : Int × Bool} (st : St m (own) w) (r1 : RepS cStr m a1 c1 p0) (hr : testgateref13_Find N p0 p1 = some r) : Calls Go.Proofs.Try.prog 20 #[.agg #[.slice a1 (List.length p0) c1], .string p1] w fun e w' => ∃ (m' : Mem), e = .returned (.tuple #[.int .i64 r.1, .bool r.2]) ∧ m.le m' ∧ St m' (own) w' := by
  unfold testgateref13_Find at hr
  have hm := m.le_refl
  refine W_calls Go.Proofs.Try.func20 rfl Go.Proofs.Try.ntmps20 [(0, .agg #[.slice a1 (List.length p0) c1]), (1, .string p1)] (by kernel_rfl) rfl ?_
  refine W_seq ?_
  refine W_region ?_
  refine WO_one rfl (One_box (d := 2) (e := 24) (x := (.tmp 0)) (.agg #[.slice a1 (List.length p0) c1]) (by kernel_rfl) rfl (by kernel_rfl) st ?_)
  clear st
  intro b1 m1 w1 hle1 st hb1
  have hm := Mem.le_trans hm hle1
  have r1 := r1.mono hle1
  refine WO_seg 2 [] (by kernel_rfl) (by kernel_rfl) ?_
  refine WO_end rfl ?_
  refine X_then ?_
  refine W_seq ?_
  refine W_seq ?_
  refine W_region ?_
  refine WO_one rfl (One_load_row (d := 7) (t := 24) (x := (.tmp 2)) (.agg #[.slice a1 (List.length p0) c1]) (by kernel_rfl) rfl (show evL _ _ = some (.pointer (some ⟨b1, 0, none⟩)) from (by kernel_rfl)) st hb1 (by kernel_rfl) ?_)
  refine WO_seg 1 [(8, .string p1)] (by kernel_rfl) (by kernel_rfl) ?_
  replace hr := bindS hr
  obtain ⟨y1, hx1, hr⟩ := hr
  refine WO_one rfl (One_fn 9 65 #[.agg #[.slice a1 (List.length p0) c1], .string p1] (by kernel_rfl) rfl ?_)
  refine (testgateref13_find_ok st r1 hx1).mono ?_
  clear st
  rintro _ w2 ⟨m2, rfl, hle2, st⟩
  refine ⟨_, rfl, ?_⟩
  have hm := Mem.le_trans hm hle2
  have hb1 := hb1.mono hle2
  have r1 := r1.mono hle2
  refine WO_seg 1 [(6, .int .i64 y1)] (by kernel_rfl) (by kernel_rfl) ?_
  refine WO_end rfl ?_
  refine X_then ?_
  refine W_seq ?_
  refine W_region ?_
  replace hr := bindS hr
  obtain ⟨o1, hr, hrK⟩ := hr
  refine WO_cut (j := 7) (fun L' w' => ∃ (m3 : Mem), L' = [(6, .int .i64 y1), (16, .bool o1)] ∧ m.le m3 ∧ St m3 (own) w') ?_ ?_
  · clear hr st
    have hr := hrK
    clear hrK
    rintro _ w3 ⟨m3, rfl, hm, st⟩
    refine WO_end rfl ?_
    refine X_then ?_
    refine W_cond o1 (by kernel_rfl) ?_ ?_
    · intro hc
      rw [if_pos hc] at hr
      refine W_seq ?_
      refine W_region ?_
      refine WO_seg 3 [(4, .int .i64 y1), (5, .bool true)] (by kernel_rfl) (by kernel_rfl) ?_
      refine WO_end rfl ?_
      refine X_then ?_
      refine W_ret ?_
      refine X_then_ret ?_
      obtain rfl := Option.some.inj hr
      refine X_ret [.tmp 4, .tmp 5] [.int .i64 y1, .bool true] rfl (ResAll.cons (ResAt.tmp (by kernel_rfl)) (ResAll.cons (ResAt.tmp (by kernel_rfl)) ResAll.nil)) ?_
      exact ⟨m3, rfl, hm, st⟩
    · intro hc
      rw [if_neg (not_true hc)] at hr
      refine W_skip ?_
      refine X_then ?_
      refine W_seq ?_
      refine W_region ?_
      refine WO_seg 2 [(4, .int .i64 0), (5, .bool false)] (by kernel_rfl) (by kernel_rfl) ?_
      refine WO_end rfl ?_
      refine X_then ?_
      refine W_ret ?_
      obtain rfl := Option.some.inj hr
      refine X_ret [.tmp 4, .tmp 5] [.int .i64 0, .bool false] rfl (ResAll.cons (ResAt.tmp (by kernel_rfl)) (ResAll.cons (ResAt.tmp (by kernel_rfl)) ResAll.nil)) ?_
      exact ⟨m3, rfl, hm, st⟩
  · intro K
    clear hrK
    refine WO_one rfl (One_load_row (d := 10) (t := 24) (x := (.tmp 2)) (.agg #[.slice a1 (List.length p0) c1]) (by kernel_rfl) rfl (show evL _ _ = some (.pointer (some ⟨b1, 0, none⟩)) from (by kernel_rfl)) st hb1 (by kernel_rfl) ?_)
    replace hr := bindS hr
    obtain ⟨y2, hx2, hr⟩ := hr
    refine WO_one rfl (One_fn 11 18 #[.agg #[.slice a1 (List.length p0) c1]] (by kernel_rfl) rfl ?_)
    refine (testgateref13_Check_ok st r1 hx2).mono ?_
    clear st
    rintro _ w4 ⟨m4, rfl, hle3, st⟩
    refine ⟨_, rfl, ?_⟩
    have hm := Mem.le_trans hm hle3
    have hb1 := hb1.mono hle3
    have r1 := r1.mono hle3
    refine WO_seg 2 [(13, .bool (y2 == 0))] (by kernel_rfl) (by kernel_rfl) ?_
    rcases bcases (y2 == 0) with hc | hc
    · rw [if_pos hc] at hr
      refine WO_fact (t := 13) (b := true) (y2 == 0) (by kernel_rfl) hc ?_
      refine WO_seg 3 [(16, .bool (decide (y1 ≥ 0)))] (by kernel_rfl) (by kernel_rfl) ?_
      obtain rfl := Option.some.inj hr
      exact WO_env _ (by kernel_rfl) (K _ _ ⟨m4, rfl, hm, st⟩)
    · rw [if_neg (not_true hc)] at hr
      refine WO_fact (t := 13) (b := false) (y2 == 0) (by kernel_rfl) hc ?_
      refine WO_seg 3 [(16, .bool false)] (by kernel_rfl) (by kernel_rfl) ?_
      obtain rfl := Option.some.inj hr
      exact WO_env _ (by kernel_rfl) (K _ _ ⟨m4, rfl, hm, st⟩)

def testgateref13_Put (N : Nat) (p0 : List ByteArray) (p1 : ByteArray) : Option (List ByteArray × Int × Int) :=
  (testgateref13_Check N p0).bind fun y1 => if (y1 != 0) = true then (some (([] : List (ByteArray)), 0, y1)) else ((appendS 16 ([] : List (ByteArray)) p0).bind fun l1 => (testgateref13_find N p0 p1).bind fun y2 => if (decide (y2 ≥ 0)) = true then (some (l1, y2, 0)) else (if ((List.length p0 : Int) == 4096) = true then (some (([] : List (ByteArray)), 0, 2)) else ((appendS 16 l1 ([p1])).bind fun l2 => some (l2, (List.length p0 : Int), 0))))

set_option maxHeartbeats 4000000 in
set_option maxRecDepth 100000 in
theorem testgateref13_Put_ok {N : Nat} {m : Mem} {own : List Piece} {w : World} {p0 : List ByteArray} {p1 : ByteArray} {a1 : Option Addr} {c1 : Nat} {r : List ByteArray × Int × Int} (st : St m (own) w) (r1 : RepS cStr m a1 c1 p0) (hr : testgateref13_Put N p0 p1 = some r) : Calls Go.Proofs.Try.prog 21 #[.agg #[.slice a1 (List.length p0) c1], .string p1] w fun e w' => ∃ (ra1 : Option Addr) (rc1 : Nat) (m' : Mem), e = .returned (.tuple #[.agg #[.slice ra1 (List.length r.1) rc1], .int .i64 r.2.1, .int .i64 r.2.2]) ∧ m.le m' ∧ St m' (.room ra1 (List.length r.1) rc1 9 1 :: own) w' ∧ RepS cStr m' ra1 rc1 r.1 := by
  unfold testgateref13_Put at hr
  have hm := m.le_refl
  refine W_calls Go.Proofs.Try.func21 rfl Go.Proofs.Try.ntmps21 [(0, .agg #[.slice a1 (List.length p0) c1]), (1, .string p1)] (by kernel_rfl) rfl ?_
  refine W_seq ?_
  refine W_region ?_
  refine WO_one rfl (One_box (d := 2) (e := 24) (x := (.tmp 0)) (.agg #[.slice a1 (List.length p0) c1]) (by kernel_rfl) rfl (by kernel_rfl) st ?_)
  clear st
  intro b1 m1 w1 hle1 st hb1
  have hm := Mem.le_trans hm hle1
  have r1 := r1.mono hle1
  refine WO_one rfl (One_alloc (d := 4) (e := 24) (.agg #[.slice none 0 0]) (by kernel_rfl) rfl (by kernel_rfl) st ?_)
  clear st
  intro b2 w2 st
  refine WO_seg 2 [] (by kernel_rfl) (by kernel_rfl) ?_
  refine WO_end rfl ?_
  refine X_then ?_
  refine W_seq ?_
  refine W_seq ?_
  refine W_region ?_
  refine WO_one rfl (One_load_row (d := 10) (t := 24) (x := (.tmp 2)) (.agg #[.slice a1 (List.length p0) c1]) (by kernel_rfl) rfl (show evL _ _ = some (.pointer (some ⟨b1, 0, none⟩)) from (by kernel_rfl)) st hb1 (by kernel_rfl) ?_)
  replace hr := bindS hr
  obtain ⟨y1, hx1, hr⟩ := hr
  refine WO_one rfl (One_fn 11 18 #[.agg #[.slice a1 (List.length p0) c1]] (by kernel_rfl) rfl ?_)
  refine (testgateref13_Check_ok st r1 hx1).mono ?_
  clear st
  rintro _ w3 ⟨m2, rfl, hle2, st⟩
  refine ⟨_, rfl, ?_⟩
  have hm := Mem.le_trans hm hle2
  have hb1 := hb1.mono hle2
  have r1 := r1.mono hle2
  refine WO_seg 1 [(7, .int .i64 y1)] (by kernel_rfl) (by kernel_rfl) ?_
  refine WO_end rfl ?_
  refine X_then ?_
  refine W_seq ?_
  refine W_region ?_
  refine WO_seg 2 [(13, .bool (y1 != 0))] (by kernel_rfl) (by kernel_rfl) ?_
  refine WO_end rfl ?_
  refine X_then ?_
  refine W_cond (y1 != 0) (by kernel_rfl) ?_ ?_
  · intro hc
    rw [if_pos hc] at hr
    refine W_seq ?_
    refine W_region ?_
    refine WO_seg 2 [(14, .agg #[.slice none (List.length ([] : List (ByteArray))) 0]), (15, .int .i64 y1)] (by kernel_rfl) (by kernel_rfl) ?_
    refine WO_one rfl (One_store (t := 24) (x := (.tmp 4)) (y := (.tmp 14)) (v := .agg #[.slice none (List.length ([] : List (ByteArray))) 0]) (c' := #[.slice none (List.length ([] : List (ByteArray))) 0]) (by kernel_rfl) (show evL _ _ = some (.pointer (some ⟨b2, 0, none⟩)) from (by kernel_rfl)) (show evL _ _ = some (.agg #[.slice none (List.length ([] : List (ByteArray))) 0]) from (by kernel_rfl)) st (by kernel_rfl) (by kernel_rfl) ?_)
    clear st
    intro w4 st
    refine WO_seg 2 [(5, .int .i64 0), (6, .int .i64 y1)] (by kernel_rfl) (by kernel_rfl) ?_
    refine WO_end rfl ?_
    refine X_then ?_
    refine W_ret ?_
    refine X_then_ret ?_
    obtain rfl := Option.some.inj hr
    refine X_ret [.cell 4 24, .tmp 5, .tmp 6] [.agg #[.slice none (List.length ([] : List (ByteArray))) 0], .int .i64 0, .int .i64 y1] rfl (ResAll.cons (ResAt.blk (v := .agg #[.slice none (List.length ([] : List (ByteArray))) 0]) (o := 0) (by kernel_rfl) st.head (by kernel_rfl)) (ResAll.cons (ResAt.tmp (by kernel_rfl)) (ResAll.cons (ResAt.tmp (by kernel_rfl)) ResAll.nil))) ?_
    have st := st.nilroom 9 1
    have st := st.front1
    have st := st.tail
    exact ⟨none, 0, m2, rfl, hm, st, (RepS.nil _ _)⟩
  · intro hc
    rw [if_neg (not_true hc)] at hr
    refine W_skip ?_
    refine X_then ?_
    refine W_seq ?_
    refine W_region ?_
    refine WO_seg 1 [(16, .pointer (some ⟨b1, 0, none⟩))] (by kernel_rfl) (by kernel_rfl) ?_
    refine WO_one rfl (One_load_row (d := 17) (t := 22) (x := (.tmp 16)) (.slice a1 (List.length p0) c1) (by kernel_rfl) rfl (show evL _ _ = some (.pointer (some ⟨b1, 0, none⟩)) from (by kernel_rfl)) st hb1 (by kernel_rfl) ?_)
    have st := st.nilroom 9 1
    replace hr := bindS hr
    obtain ⟨l1, hx2, hr⟩ := hr
    refine WO_one rfl (One_append (d := 18) (t := 22) (u := 22) (e := 9) (by_ := 16) (x := (.const (.slice none 0 0))) (y := (.tmp 17)) cStr (by kernel_rfl) rfl (show evL _ _ = some (.slice none (List.length ([] : List (ByteArray))) 0) from (by kernel_rfl)) (show evL _ _ = some (.slice a1 (List.length p0) c1) from (by kernel_rfl)) st (by kernel_rfl) (.inl (by kernel_rfl)) (RepS.nil _ _) r1.src hx2 ?_)
    clear st
    intro a2 c2 m3 w5 hle3 st r2
    have hm := Mem.le_trans hm hle3
    have hb1 := hb1.mono hle3
    have r1 := r1.mono hle3
    refine WO_seg 1 [(19, .agg #[.slice a2 (List.length l1) c2])] (by kernel_rfl) (by kernel_rfl) ?_
    refine WO_one rfl (One_alloc (d := 8) (e := 24) (.agg #[.slice none 0 0]) (by kernel_rfl) rfl (by kernel_rfl) st ?_)
    clear st
    intro b3 w6 st
    refine WO_one rfl (One_store (t := 24) (x := (.tmp 8)) (y := (.tmp 19)) (v := .agg #[.slice a2 (List.length l1) c2]) (c' := #[.slice a2 (List.length l1) c2]) (by kernel_rfl) (show evL _ _ = some (.pointer (some ⟨b3, 0, none⟩)) from (by kernel_rfl)) (show evL _ _ = some (.agg #[.slice a2 (List.length l1) c2]) from (by kernel_rfl)) st (by kernel_rfl) (by kernel_rfl) ?_)
    clear st
    intro w7 st
    refine WO_end rfl ?_
    refine X_then ?_
    refine W_seq ?_
    refine W_seq ?_
    refine W_region ?_
    refine WO_one rfl (One_load_row (d := 20) (t := 24) (x := (.tmp 2)) (.agg #[.slice a1 (List.length p0) c1]) (by kernel_rfl) rfl (show evL _ _ = some (.pointer (some ⟨b1, 0, none⟩)) from (by kernel_rfl)) st hb1 (by kernel_rfl) ?_)
    refine WO_seg 1 [(21, .string p1)] (by kernel_rfl) (by kernel_rfl) ?_
    replace hr := bindS hr
    obtain ⟨y2, hx3, hr⟩ := hr
    refine WO_one rfl (One_fn 22 65 #[.agg #[.slice a1 (List.length p0) c1], .string p1] (by kernel_rfl) rfl ?_)
    refine (testgateref13_find_ok st r1 hx3).mono ?_
    clear st
    rintro _ w8 ⟨m4, rfl, hle4, st⟩
    refine ⟨_, rfl, ?_⟩
    have hm := Mem.le_trans hm hle4
    have hb1 := hb1.mono hle4
    have r1 := r1.mono hle4
    have r2 := r2.mono hle4
    refine WO_seg 1 [(9, .int .i64 y2)] (by kernel_rfl) (by kernel_rfl) ?_
    refine WO_end rfl ?_
    refine X_then ?_
    refine W_seq ?_
    refine W_region ?_
    refine WO_seg 2 [(24, .bool (decide (y2 ≥ 0)))] (by kernel_rfl) (by kernel_rfl) ?_
    refine WO_end rfl ?_
    refine X_then ?_
    refine W_cond (decide (y2 ≥ 0)) (by kernel_rfl) ?_ ?_
    · intro hc
      rw [if_pos hc] at hr
      refine W_seq ?_
      refine W_region ?_
      refine WO_one rfl (One_load_own (d := 25) (t := 24) (x := (.tmp 8)) (.agg #[.slice a2 (List.length l1) c2]) (by kernel_rfl) rfl (show evL _ _ = some (.pointer (some ⟨b3, 0, none⟩)) from (by kernel_rfl)) st.head (by kernel_rfl) ?_)
      refine WO_seg 1 [(26, .int .i64 y2)] (by kernel_rfl) (by kernel_rfl) ?_
      have st := st.front2
      refine WO_one rfl (One_store (t := 24) (x := (.tmp 4)) (y := (.tmp 25)) (v := .agg #[.slice a2 (List.length l1) c2]) (c' := #[.slice a2 (List.length l1) c2]) (by kernel_rfl) (show evL _ _ = some (.pointer (some ⟨b2, 0, none⟩)) from (by kernel_rfl)) (show evL _ _ = some (.agg #[.slice a2 (List.length l1) c2]) from (by kernel_rfl)) st (by kernel_rfl) (by kernel_rfl) ?_)
      clear st
      intro w9 st
      refine WO_seg 2 [(5, .int .i64 y2), (6, .int .i64 0)] (by kernel_rfl) (by kernel_rfl) ?_
      refine WO_end rfl ?_
      refine X_then ?_
      refine W_ret ?_
      refine X_then_ret ?_
      obtain rfl := Option.some.inj hr
      refine X_ret [.cell 4 24, .tmp 5, .tmp 6] [.agg #[.slice a2 (List.length l1) c2], .int .i64 y2, .int .i64 0] rfl (ResAll.cons (ResAt.blk (v := .agg #[.slice a2 (List.length l1) c2]) (o := 0) (by kernel_rfl) st.head (by kernel_rfl)) (ResAll.cons (ResAt.tmp (by kernel_rfl)) (ResAll.cons (ResAt.tmp (by kernel_rfl)) ResAll.nil))) ?_
      have st := st.tail
      have st := st.tail
      exact ⟨a2, c2, m4, rfl, hm, st, r2⟩
    · intro hc
      rw [if_neg (not_true hc)] at hr
      refine W_skip ?_
      refine X_then ?_
      refine W_seq ?_
      refine W_seq ?_
      refine W_region ?_
      refine WO_seg 1 [(27, .pointer (some ⟨b1, 0, none⟩))] (by kernel_rfl) (by kernel_rfl) ?_
      refine WO_one rfl (One_load_row (d := 28) (t := 22) (x := (.tmp 27)) (.slice a1 (List.length p0) c1) (by kernel_rfl) rfl (show evL _ _ = some (.pointer (some ⟨b1, 0, none⟩)) from (by kernel_rfl)) st hb1 (by kernel_rfl) ?_)
      refine WO_seg 2 [(30, .bool ((List.length p0 : Int) == 4096))] (by kernel_rfl) (by kernel_rfl) ?_
      refine WO_end rfl ?_
      refine X_then ?_
      refine W_cond ((List.length p0 : Int) == 4096) (by kernel_rfl) ?_ ?_
      · intro hc
        rw [if_pos hc] at hr
        refine W_seq ?_
        refine W_region ?_
        refine WO_seg 1 [(31, .agg #[.slice none (List.length ([] : List (ByteArray))) 0])] (by kernel_rfl) (by kernel_rfl) ?_
        have st := st.front2
        refine WO_one rfl (One_store (t := 24) (x := (.tmp 4)) (y := (.tmp 31)) (v := .agg #[.slice none (List.length ([] : List (ByteArray))) 0]) (c' := #[.slice none (List.length ([] : List (ByteArray))) 0]) (by kernel_rfl) (show evL _ _ = some (.pointer (some ⟨b2, 0, none⟩)) from (by kernel_rfl)) (show evL _ _ = some (.agg #[.slice none (List.length ([] : List (ByteArray))) 0]) from (by kernel_rfl)) st (by kernel_rfl) (by kernel_rfl) ?_)
        clear st
        intro w10 st
        refine WO_seg 2 [(5, .int .i64 0), (6, .int .i64 2)] (by kernel_rfl) (by kernel_rfl) ?_
        refine WO_end rfl ?_
        refine X_then ?_
        refine W_ret ?_
        refine X_then_ret ?_
        obtain rfl := Option.some.inj hr
        refine X_ret [.cell 4 24, .tmp 5, .tmp 6] [.agg #[.slice none (List.length ([] : List (ByteArray))) 0], .int .i64 0, .int .i64 2] rfl (ResAll.cons (ResAt.blk (v := .agg #[.slice none (List.length ([] : List (ByteArray))) 0]) (o := 0) (by kernel_rfl) st.head (by kernel_rfl)) (ResAll.cons (ResAt.tmp (by kernel_rfl)) (ResAll.cons (ResAt.tmp (by kernel_rfl)) ResAll.nil))) ?_
        have st := st.nilroom 9 1
        have st := st.front1
        have st := st.tail
        have st := st.front1
        have st := st.tail
        have st := st.front1
        have st := st.tail
        exact ⟨none, 0, m4, rfl, hm, st, (RepS.nil _ _)⟩
      · intro hc
        rw [if_neg (not_true hc)] at hr
        refine W_skip ?_
        refine X_then ?_
        refine W_seq ?_
        refine W_region ?_
        refine WO_seg 1 [(32, .pointer (some ⟨b3, 0, none⟩))] (by kernel_rfl) (by kernel_rfl) ?_
        refine WO_one rfl (One_load_own (d := 33) (t := 22) (x := (.tmp 32)) (.slice a2 (List.length l1) c2) (by kernel_rfl) rfl (show evL _ _ = some (.pointer (some ⟨b3, 0, none⟩)) from (by kernel_rfl)) st.head (by kernel_rfl) ?_)
        refine WO_seg 1 [(34, .string p1)] (by kernel_rfl) (by kernel_rfl) ?_
        refine WO_one rfl (One_buildSlice (d := 35) (t := 22) (e := 9) (len := 1) (parts := #[(0, (.tmp 34))]) cStr (xs := [p1]) [.string p1] (by kernel_rfl) rfl (fun _ => buildCells_run (by kernel_rfl) _) rfl rfl st ⟨[.string p1], _, rfl, rfl, rfl⟩ ?_)
        clear st
        intro b4 m5 w11 hle5 st r3
        have hm := Mem.le_trans hm hle5
        have hb1 := hb1.mono hle5
        have r1 := r1.mono hle5
        have r2 := r2.mono hle5
        have st := st.front2
        replace hr := bindS hr
        obtain ⟨l2, hx4, hr⟩ := hr
        refine WO_one rfl (One_append (d := 36) (t := 22) (u := 22) (e := 9) (by_ := 16) (x := (.tmp 33)) (y := (.tmp 35)) cStr (by kernel_rfl) rfl (show evL _ _ = some (.slice a2 (List.length l1) c2) from (by kernel_rfl)) (show evL _ _ = some (.slice (some ⟨b4, 0, none⟩) (List.length ([p1])) 1) from (by kernel_rfl)) st (by kernel_rfl) (.inl (by kernel_rfl)) r2 r3.src hx4 ?_)
        clear st
        intro a3 c3 m6 w12 hle6 st r4
        have hm := Mem.le_trans hm hle6
        have hb1 := hb1.mono hle6
        have r1 := r1.mono hle6
        have r2 := r2.mono hle6
        have r3 := r3.mono hle6
        refine WO_seg 1 [(37, .pointer (some ⟨b3, 0, none⟩))] (by kernel_rfl) (by kernel_rfl) ?_
        have st := st.front2
        refine WO_one rfl (One_store (t := 22) (x := (.tmp 37)) (y := (.tmp 36)) (v := .slice a3 (List.length l2) c3) (c' := #[.slice a3 (List.length l2) c3]) (by kernel_rfl) (show evL _ _ = some (.pointer (some ⟨b3, 0, none⟩)) from (by kernel_rfl)) (show evL _ _ = some (.slice a3 (List.length l2) c3) from (by kernel_rfl)) st (by kernel_rfl) (by kernel_rfl) ?_)
        clear st
        intro w13 st
        refine WO_end rfl ?_
        have st := st.front2
        have st := st.tail
        refine X_then ?_
        refine W_seq ?_
        refine W_draw [(7, fun w' => Inv m6 w' ∧ Piece.holds m6 w' (.blk b3 (.cells #[.slice a3 (List.length l2) c3] 24 (0, 0))) ∧ True)] (by kernel_rfl) st ?_
        clear st
        intro w14 _ st
        have hmS := m6.le_refl
        refine ⟨⟨.inr ⟨Inv.anti st.inv hmS, Piece.holds_anti st.head hmS, trivial⟩, trivial⟩, ?_⟩
        refine WA_load_own (t := 24) (x := (.tmp 8)) 0 38 (.agg #[.slice a3 (List.length l2) c3]) (by kernel_rfl) rfl (by kernel_rfl) (.head _) (QP_then QP_body) (fun _ h => h.2.1) (show evL _ _ = some (.pointer (some ⟨b3, 0, none⟩)) from (by kernel_rfl)) (by kernel_rfl) ?_
        refine WA_pure 1 39 (.pointer (some ⟨b1, 0, none⟩)) (by kernel_rfl) rfl (by kernel_rfl) (.head _) (QP_then QP_body) ?_
        refine WA_load_row (t := 22) (x := (.tmp 39)) 2 40 (.slice a1 (List.length p0) c1) (by kernel_rfl) rfl (by kernel_rfl) (.head _) (QP_then QP_body) (fun _ h => h.1) (show evL _ _ = some (.pointer (some ⟨b1, 0, none⟩)) from (by kernel_rfl)) hb1 (by kernel_rfl) ?_
        refine WA_pure 3 41 (.int .i64 (List.length p0 : Int)) (by kernel_rfl) rfl (by kernel_rfl) (.head _) (QP_then QP_body) ?_
        have st := st.front2
        refine WA_one 4 (by kernel_rfl) (One_store (t := 24) (x := (.tmp 4)) (y := (.tmp 38)) (v := .agg #[.slice a3 (List.length l2) c3]) (c' := #[.slice a3 (List.length l2) c3]) (by kernel_rfl) (show evL _ _ = some (.pointer (some ⟨b2, 0, none⟩)) from (by kernel_rfl)) (show evL _ _ = some (.agg #[.slice a3 (List.length l2) c3]) from (by kernel_rfl)) st (by kernel_rfl) (by kernel_rfl) ?_)
        clear st
        intro w15 st
        refine ⟨⟨.inr ⟨Inv.anti st.inv hmS, Piece.holds_anti st.tail.head hmS, trivial⟩, trivial⟩, ?_⟩
        refine WA_pure 5 5 (.int .i64 (List.length p0 : Int)) (by kernel_rfl) rfl (by kernel_rfl) (.head _) (QP_then QP_body) ?_
        refine WA_pure 6 6 (.int .i64 0) (by kernel_rfl) rfl (by kernel_rfl) (.head _) (QP_then QP_body) ?_
        refine WA_done (by kernel_rfl) ?_
        refine X_then ?_
        refine W_ret ?_
        obtain rfl := Option.some.inj hr
        refine X_ret [.cell 4 24, .tmp 5, .tmp 6] [.agg #[.slice a3 (List.length l2) c3], .int .i64 (List.length p0 : Int), .int .i64 0] rfl (ResAll.cons (ResAt.blk (v := .agg #[.slice a3 (List.length l2) c3]) (o := 0) (by kernel_rfl) st.head (by kernel_rfl)) (ResAll.cons (ResAt.tmp (by kernel_rfl)) (ResAll.cons (ResAt.tmp (by kernel_rfl)) ResAll.nil))) ?_
        have st := st.tail
        have st := st.tail
        exact ⟨a3, c3, m6, rfl, hm, st, r4⟩

def testgateref13_Same_L1 (N : Nat) (p0 : List ByteArray) (p1 : List ByteArray) (s1 : Int) : Option ((Int) ⊕ ((Unit) ⊕ (Bool))) :=
  if (decide (s1 < (List.length p0 : Int))) = true then ((idx p0 s1).bind fun x1 => (idx p1 s1).bind fun x2 => if (!(x1.toList == x2.toList)) = true then (some (.inr (.inr (false)))) else (some (.inl (IntKind.wrap .i64 (s1 + 1))))) else (some (.inr (.inl ())))

def testgateref13_Same (N : Nat) (p0 : List ByteArray) (p1 : List ByteArray) : Option (Bool) :=
  if ((List.length p0 : Int) != (List.length p1 : Int)) = true then (some false) else ((loopM (testgateref13_Same_L1 N p0 p1) N 0).bind fun out1 => (match out1 with | .inl o1 => some true | .inr (z) => some z))

set_option maxHeartbeats 4000000 in
set_option maxRecDepth 100000 in
theorem testgateref13_Same_ok {N : Nat} {m : Mem} {own : List Piece} {w : World} {p0 : List ByteArray} {p1 : List ByteArray} {a1 : Option Addr} {c1 : Nat} {a2 : Option Addr} {c2 : Nat} {r : Bool} (st : St m (own) w) (r1 : RepS cStr m a1 c1 p0) (r2 : RepS cStr m a2 c2 p1) (hr : testgateref13_Same N p0 p1 = some r) : Calls Go.Proofs.Try.prog 22 #[.agg #[.slice a1 (List.length p0) c1], .agg #[.slice a2 (List.length p1) c2]] w fun e w' => ∃ (m' : Mem), e = .returned (.bool r) ∧ m.le m' ∧ St m' (own) w' := by
  unfold testgateref13_Same at hr
  have hm := m.le_refl
  refine W_calls Go.Proofs.Try.func22 rfl Go.Proofs.Try.ntmps22 [(0, .agg #[.slice a1 (List.length p0) c1]), (1, .agg #[.slice a2 (List.length p1) c2])] (by kernel_rfl) rfl ?_
  refine W_seq ?_
  refine W_region ?_
  refine WO_one rfl (One_box (d := 2) (e := 24) (x := (.tmp 0)) (.agg #[.slice a1 (List.length p0) c1]) (by kernel_rfl) rfl (by kernel_rfl) st ?_)
  clear st
  intro b1 m1 w1 hle1 st hb1
  have hm := Mem.le_trans hm hle1
  have r1 := r1.mono hle1
  have r2 := r2.mono hle1
  refine WO_one rfl (One_box (d := 3) (e := 24) (x := (.tmp 1)) (.agg #[.slice a2 (List.length p1) c2]) (by kernel_rfl) rfl (by kernel_rfl) st ?_)
  clear st
  intro b2 m2 w2 hle2 st hb2
  have hm := Mem.le_trans hm hle2
  have r1 := r1.mono hle2
  have r2 := r2.mono hle2
  have hb1 := hb1.mono hle2
  refine WO_seg 1 [] (by kernel_rfl) (by kernel_rfl) ?_
  refine WO_end rfl ?_
  refine X_then ?_
  refine W_seq ?_
  refine W_seq ?_
  refine W_region ?_
  refine WO_seg 1 [(6, .pointer (some ⟨b1, 0, none⟩))] (by kernel_rfl) (by kernel_rfl) ?_
  refine WO_one rfl (One_load_row (d := 7) (t := 22) (x := (.tmp 6)) (.slice a1 (List.length p0) c1) (by kernel_rfl) rfl (show evL _ _ = some (.pointer (some ⟨b1, 0, none⟩)) from (by kernel_rfl)) st hb1 (by kernel_rfl) ?_)
  refine WO_seg 2 [(8, .int .i64 (List.length p0 : Int)), (9, .pointer (some ⟨b2, 0, none⟩))] (by kernel_rfl) (by kernel_rfl) ?_
  refine WO_one rfl (One_load_row (d := 10) (t := 22) (x := (.tmp 9)) (.slice a2 (List.length p1) c2) (by kernel_rfl) rfl (show evL _ _ = some (.pointer (some ⟨b2, 0, none⟩)) from (by kernel_rfl)) st hb2 (by kernel_rfl) ?_)
  refine WO_seg 2 [(12, .bool ((List.length p0 : Int) != (List.length p1 : Int)))] (by kernel_rfl) (by kernel_rfl) ?_
  refine WO_end rfl ?_
  refine X_then ?_
  refine W_cond ((List.length p0 : Int) != (List.length p1 : Int)) (by kernel_rfl) ?_ ?_
  · intro hc
    rw [if_pos hc] at hr
    refine W_seq ?_
    refine W_region ?_
    refine WO_seg 1 [(4, .bool false)] (by kernel_rfl) (by kernel_rfl) ?_
    refine WO_end rfl ?_
    refine X_then ?_
    refine W_ret ?_
    refine X_then_ret ?_
    obtain rfl := Option.some.inj hr
    refine X_ret [.tmp 4] [.bool false] rfl (ResAll.cons (ResAt.tmp (by kernel_rfl)) ResAll.nil) ?_
    exact ⟨m2, rfl, hm, st⟩
  · intro hc
    rw [if_neg (not_true hc)] at hr
    refine W_skip ?_
    refine X_then ?_
    refine W_seq ?_
    refine W_seq ?_
    refine W_region ?_
    refine WO_seg 1 [(13, .pointer (some ⟨b1, 0, none⟩))] (by kernel_rfl) (by kernel_rfl) ?_
    refine WO_one rfl (One_load_row (d := 14) (t := 22) (x := (.tmp 13)) (.slice a1 (List.length p0) c1) (by kernel_rfl) rfl (show evL _ _ = some (.pointer (some ⟨b1, 0, none⟩)) from (by kernel_rfl)) st hb1 (by kernel_rfl) ?_)
    refine WO_seg 2 [(15, .int .i64 (List.length p0 : Int)), (16, .int .i64 0)] (by kernel_rfl) (by kernel_rfl) ?_
    refine WO_end rfl ?_
    refine X_then ?_
    refine W_block ?_
    replace hr := bindS hr
    obtain ⟨out1, hr, hrKu1⟩ := hr
    refine W_cut (.exit 0) (fun L' w' => ∃ (o1 : Unit) (m3 : Mem), (.inl o1) = out1 ∧ L' = [] ∧ m.le m3 ∧ St m3 (own) w') ?_ ?_
    · clear hr st
      rintro _ w3 ⟨o1, m3, rfl, rfl, hm, st⟩
      have hr := hrKu1
      clear hrKu1
      dsimp only at hr
      refine X_block_eq ?_
      refine X_then ?_
      refine W_seq ?_
      refine W_region ?_
      refine WO_seg 1 [(4, .bool true)] (by kernel_rfl) (by kernel_rfl) ?_
      refine WO_end rfl ?_
      refine X_then ?_
      refine W_ret ?_
      obtain rfl := Option.some.inj hr
      refine X_ret [.tmp 4] [.bool true] rfl (ResAll.cons (ResAt.tmp (by kernel_rfl)) ResAll.nil) ?_
      exact ⟨m3, rfl, hm, st⟩
    intro K0_u1
    refine W_env _ (by kernel_rfl) (W_loop (fun k1 L' w' => ∃ (s1 : Int) (m4 : Mem), loopM (testgateref13_Same_L1 N p0 p1) k1 s1 = some out1 ∧ L' = [(2, .pointer (some ⟨b1, 0, none⟩)), (3, .pointer (some ⟨b2, 0, none⟩)), (15, .int .i64 (List.length p0 : Int)), (16, .int .i64 s1)] ∧ m.le m4 ∧ St m4 (own) w' ∧ MRow m4 b1 0 [.slice a1 (List.length p0) c1] ∧ RepS cStr m4 a1 c1 p0 ∧ MRow m4 b2 0 [.slice a2 (List.length p1) c2] ∧ RepS cStr m4 a2 c2 p1) N ⟨0, m2, hr, rfl, hm, st, hb1, r1, hb2, r2⟩ ?_)
    clear st hr
    rintro k1 _ w4 ⟨s1, m4, hL, rfl, hm, st, hb1, r1, hb2, r2⟩
    rcases k1 with _ | k1
    · exact loopM_zero hL
    · obtain ⟨qu1, hr, hSu1, hBu1⟩ := loopM_succ hL
      clear hL
      unfold testgateref13_Same_L1 at hr
      refine W_seq ?_
      refine W_region ?_
      refine WO_seg 1 [(17, .bool (decide (s1 < (List.length p0 : Int))))] (by kernel_rfl) (by kernel_rfl) ?_
      refine WO_end rfl ?_
      refine X_then ?_
      refine W_seq ?_
      refine W_cond (decide (s1 < (List.length p0 : Int))) (by kernel_rfl) ?_ ?_
      · intro hc
        rw [if_pos hc] at hr
        refine W_skip ?_
        refine X_then ?_
        refine W_seq ?_
        refine W_block ?_
        refine W_seq ?_
        refine W_region ?_
        refine WO_seg 2 [(5, .int .i64 s1)] (by kernel_rfl) (by kernel_rfl) ?_
        refine WO_end rfl ?_
        refine X_then ?_
        refine W_seq ?_
        refine W_draw [(11, fun w' => Inv m4 w' ∧ True)] (by kernel_rfl) st ?_
        clear st
        intro w5 _ st
        have hmS := m4.le_refl
        refine ⟨⟨.inr ⟨Inv.anti st.inv hmS, trivial⟩, trivial⟩, ?_⟩
        refine WA_pure 0 19 (.pointer (some ⟨b1, 0, none⟩)) (by kernel_rfl) rfl (by kernel_rfl) (.head _) (QP_then (QP_block (QP_then (QP_then (QP_block (QP_then QP_body)))))) ?_
        refine WA_load_row (t := 22) (x := (.tmp 19)) 1 20 (.slice a1 (List.length p0) c1) (by kernel_rfl) rfl (by kernel_rfl) (.head _) (QP_then (QP_block (QP_then (QP_then (QP_block (QP_then QP_body)))))) (fun _ h => h.1) (show evL _ _ = some (.pointer (some ⟨b1, 0, none⟩)) from (by kernel_rfl)) hb1 (by kernel_rfl) ?_
        refine WA_pure 2 21 (.int .i64 s1) (by kernel_rfl) rfl (by kernel_rfl) (.head _) (QP_then (QP_block (QP_then (QP_then (QP_block (QP_then QP_body)))))) ?_
        replace hr := bindS hr
        obtain ⟨x1, hx1, hr⟩ := hr
        refine WA_index (t := 22) (e := 9) (x := (.tmp 20)) (y := (.tmp 21)) 3 22 cStr (by kernel_rfl) rfl (by kernel_rfl) (.head _) (QP_then (QP_block (QP_then (QP_then (QP_block (QP_then QP_body)))))) (show evL _ _ = some (.slice a1 (List.length p0) c1) from (by kernel_rfl)) (show evL _ _ = some (.int .i64 s1) from (by kernel_rfl)) (by kernel_rfl) r1 hx1 ?_
        rintro b3 f1 cs1 rfl hq1
        refine WA_load_row (t := 9) (x := (.tmp 22)) 4 23 (.string x1) (by kernel_rfl) rfl (by kernel_rfl) (.head _) (QP_then (QP_block (QP_then (QP_then (QP_block (QP_then QP_body)))))) (fun _ h => h.1) (show evL _ _ = some (.pointer (some ⟨b3, f1, none⟩)) from (by kernel_rfl)) hq1 (by kernel_rfl) ?_
        refine WA_pure 5 24 (.pointer (some ⟨b2, 0, none⟩)) (by kernel_rfl) rfl (by kernel_rfl) (.head _) (QP_then (QP_block (QP_then (QP_then (QP_block (QP_then QP_body)))))) ?_
        refine WA_load_row (t := 22) (x := (.tmp 24)) 6 25 (.slice a2 (List.length p1) c2) (by kernel_rfl) rfl (by kernel_rfl) (.head _) (QP_then (QP_block (QP_then (QP_then (QP_block (QP_then QP_body)))))) (fun _ h => h.1) (show evL _ _ = some (.pointer (some ⟨b2, 0, none⟩)) from (by kernel_rfl)) hb2 (by kernel_rfl) ?_
        refine WA_pure 7 26 (.int .i64 s1) (by kernel_rfl) rfl (by kernel_rfl) (.head _) (QP_then (QP_block (QP_then (QP_then (QP_block (QP_then QP_body)))))) ?_
        replace hr := bindS hr
        obtain ⟨x2, hx2, hr⟩ := hr
        refine WA_index (t := 22) (e := 9) (x := (.tmp 25)) (y := (.tmp 26)) 8 27 cStr (by kernel_rfl) rfl (by kernel_rfl) (.head _) (QP_then (QP_block (QP_then (QP_then (QP_block (QP_then QP_body)))))) (show evL _ _ = some (.slice a2 (List.length p1) c2) from (by kernel_rfl)) (show evL _ _ = some (.int .i64 s1) from (by kernel_rfl)) (by kernel_rfl) r2 hx2 ?_
        rintro b4 f2 cs2 rfl hq2
        refine WA_load_row (t := 9) (x := (.tmp 27)) 9 28 (.string x2) (by kernel_rfl) rfl (by kernel_rfl) (.head _) (QP_then (QP_block (QP_then (QP_then (QP_block (QP_then QP_body)))))) (fun _ h => h.1) (show evL _ _ = some (.pointer (some ⟨b4, f2, none⟩)) from (by kernel_rfl)) hq2 (by kernel_rfl) ?_
        refine WA_pure 10 29 (.bool (!(x1.toList == x2.toList))) (by kernel_rfl) rfl (by kernel_rfl) (.head _) (QP_then (QP_block (QP_then (QP_then (QP_block (QP_then QP_body)))))) ?_
        refine WA_done (by kernel_rfl) ?_
        refine X_then ?_
        refine W_cond (!(x1.toList == x2.toList)) (by kernel_rfl) ?_ ?_
        · intro hc
          rw [if_pos hc] at hr
          refine W_seq ?_
          refine W_region ?_
          refine WO_seg 1 [(4, .bool false)] (by kernel_rfl) (by kernel_rfl) ?_
          refine WO_end rfl ?_
          refine X_then ?_
          refine W_ret ?_
          refine X_block_ret ?_
          refine X_then_ret ?_
          obtain rfl := Option.some.inj hr
          have ho := hBu1 _ rfl
          subst ho
          have hr := hrKu1
          dsimp only at hr
          refine X_then_ret ?_
          refine X_block_ret ?_
          refine X_then_ret ?_
          obtain rfl := Option.some.inj hr
          refine X_ret [.tmp 4] [.bool false] rfl (ResAll.cons (ResAt.tmp (by kernel_rfl)) ResAll.nil) ?_
          exact ⟨m4, rfl, hm, st⟩
        · intro hc
          rw [if_neg (not_true hc)] at hr
          refine W_skip ?_
          refine X_block ?_
          refine X_then ?_
          refine W_region ?_
          refine WO_seg 2 [(16, .int .i64 (IntKind.wrap .i64 (s1 + 1)))] (by kernel_rfl) (by kernel_rfl) ?_
          refine WO_end rfl ?_
          obtain rfl := Option.some.inj hr
          have hL := hSu1 _ rfl
          exact X_env _ (by kernel_rfl) (X_round k1 (Nat.lt_succ_self _) ⟨IntKind.wrap .i64 (s1 + 1), m4, hL, rfl, hm, st, hb1, r1, hb2, r2⟩)
      · intro hc
        rw [if_neg (not_true hc)] at hr
        refine W_exit ?_
        refine X_then_exit ?_
        obtain rfl := Option.some.inj hr
        have ho := hBu1 _ rfl
        refine X_then_exit ?_
        exact X_env _ (by kernel_rfl) (K0_u1 _ _ ⟨(), m4, ho, rfl, hm, st⟩)

def testgateref13_Get (N : Nat) (p0 : List ByteArray) (p1 : Int) : Option (ByteArray × Int) :=
  (testgateref13_Check N p0).bind fun y1 => if (y1 != 0) = true then (some ((⟨#[]⟩ : ByteArray), y1)) else ((if (decide (p1 < 0)) = true then (some true) else (some (decide (p1 ≥ (List.length p0 : Int)))) : Option (Bool)).bind fun o1 => if o1 = true then (some ((⟨#[]⟩ : ByteArray), 20)) else ((idx p0 p1).bind fun x1 => some (x1, 0)))

set_option maxHeartbeats 4000000 in
set_option maxRecDepth 100000 in
theorem testgateref13_Get_ok {N : Nat} {m : Mem} {own : List Piece} {w : World} {p0 : List ByteArray} {p1 : Int} {a1 : Option Addr} {c1 : Nat} {r : ByteArray × Int} (st : St m (own) w) (r1 : RepS cStr m a1 c1 p0) (hr : testgateref13_Get N p0 p1 = some r) : Calls Go.Proofs.Try.prog 24 #[.agg #[.slice a1 (List.length p0) c1], .int .i64 p1] w fun e w' => ∃ (m' : Mem), e = .returned (.tuple #[.string r.1, .int .i64 r.2]) ∧ m.le m' ∧ St m' (own) w' := by
  unfold testgateref13_Get at hr
  have hm := m.le_refl
  refine W_calls Go.Proofs.Try.func24 rfl Go.Proofs.Try.ntmps24 [(0, .agg #[.slice a1 (List.length p0) c1]), (1, .int .i64 p1)] (by kernel_rfl) rfl ?_
  refine W_seq ?_
  refine W_region ?_
  refine WO_one rfl (One_box (d := 2) (e := 24) (x := (.tmp 0)) (.agg #[.slice a1 (List.length p0) c1]) (by kernel_rfl) rfl (by kernel_rfl) st ?_)
  clear st
  intro b1 m1 w1 hle1 st hb1
  have hm := Mem.le_trans hm hle1
  have r1 := r1.mono hle1
  refine WO_seg 2 [] (by kernel_rfl) (by kernel_rfl) ?_
  refine WO_end rfl ?_
  refine X_then ?_
  refine W_seq ?_
  refine W_seq ?_
  refine W_region ?_
  refine WO_one rfl (One_load_row (d := 7) (t := 24) (x := (.tmp 2)) (.agg #[.slice a1 (List.length p0) c1]) (by kernel_rfl) rfl (show evL _ _ = some (.pointer (some ⟨b1, 0, none⟩)) from (by kernel_rfl)) st hb1 (by kernel_rfl) ?_)
  replace hr := bindS hr
  obtain ⟨y1, hx1, hr⟩ := hr
  refine WO_one rfl (One_fn 8 18 #[.agg #[.slice a1 (List.length p0) c1]] (by kernel_rfl) rfl ?_)
  refine (testgateref13_Check_ok st r1 hx1).mono ?_
  clear st
  rintro _ w2 ⟨m2, rfl, hle2, st⟩
  refine ⟨_, rfl, ?_⟩
  have hm := Mem.le_trans hm hle2
  have hb1 := hb1.mono hle2
  have r1 := r1.mono hle2
  refine WO_seg 1 [(6, .int .i64 y1)] (by kernel_rfl) (by kernel_rfl) ?_
  refine WO_end rfl ?_
  refine X_then ?_
  refine W_seq ?_
  refine W_region ?_
  refine WO_seg 2 [(10, .bool (y1 != 0))] (by kernel_rfl) (by kernel_rfl) ?_
  refine WO_end rfl ?_
  refine X_then ?_
  refine W_cond (y1 != 0) (by kernel_rfl) ?_ ?_
  · intro hc
    rw [if_pos hc] at hr
    refine W_seq ?_
    refine W_region ?_
    refine WO_seg 3 [(4, .string (⟨#[]⟩ : ByteArray)), (5, .int .i64 y1)] (by kernel_rfl) (by kernel_rfl) ?_
    refine WO_end rfl ?_
    refine X_then ?_
    refine W_ret ?_
    refine X_then_ret ?_
    obtain rfl := Option.some.inj hr
    refine X_ret [.tmp 4, .tmp 5] [.string (⟨#[]⟩ : ByteArray), .int .i64 y1] rfl (ResAll.cons (ResAt.tmp (by kernel_rfl)) (ResAll.cons (ResAt.tmp (by kernel_rfl)) ResAll.nil)) ?_
    exact ⟨m2, rfl, hm, st⟩
  · intro hc
    rw [if_neg (not_true hc)] at hr
    refine W_skip ?_
    refine X_then ?_
    refine W_seq ?_
    refine W_seq ?_
    refine W_region ?_
    replace hr := bindS hr
    obtain ⟨o1, hr, hrK⟩ := hr
    refine WO_cut (j := 9) (fun L' w' => ∃ (m3 : Mem), L' = [(1, .int .i64 p1), (2, .pointer (some ⟨b1, 0, none⟩)), (20, .bool o1)] ∧ m.le m3 ∧ St m3 (own) w' ∧ MRow m3 b1 0 [.slice a1 (List.length p0) c1] ∧ RepS cStr m3 a1 c1 p0) ?_ ?_
    · clear hr st
      have hr := hrK
      clear hrK
      rintro _ w3 ⟨m3, rfl, hm, st, hb1, r1⟩
      refine WO_end rfl ?_
      refine X_then ?_
      refine W_cond o1 (by kernel_rfl) ?_ ?_
      · intro hc
        rw [if_pos hc] at hr
        refine W_seq ?_
        refine W_region ?_
        refine WO_seg 2 [(4, .string (⟨#[]⟩ : ByteArray)), (5, .int .i64 20)] (by kernel_rfl) (by kernel_rfl) ?_
        refine WO_end rfl ?_
        refine X_then ?_
        refine W_ret ?_
        refine X_then_ret ?_
        obtain rfl := Option.some.inj hr
        refine X_ret [.tmp 4, .tmp 5] [.string (⟨#[]⟩ : ByteArray), .int .i64 20] rfl (ResAll.cons (ResAt.tmp (by kernel_rfl)) (ResAll.cons (ResAt.tmp (by kernel_rfl)) ResAll.nil)) ?_
        exact ⟨m3, rfl, hm, st⟩
      · intro hc
        rw [if_neg (not_true hc)] at hr
        refine W_skip ?_
        refine X_then ?_
        refine W_seq ?_
        refine W_region ?_
        refine WO_seg 1 [(21, .pointer (some ⟨b1, 0, none⟩))] (by kernel_rfl) (by kernel_rfl) ?_
        refine WO_one rfl (One_load_row (d := 22) (t := 22) (x := (.tmp 21)) (.slice a1 (List.length p0) c1) (by kernel_rfl) rfl (show evL _ _ = some (.pointer (some ⟨b1, 0, none⟩)) from (by kernel_rfl)) st hb1 (by kernel_rfl) ?_)
        refine WO_seg 1 [(23, .int .i64 p1)] (by kernel_rfl) (by kernel_rfl) ?_
        replace hr := bindS hr
        obtain ⟨x1, hx2, hr⟩ := hr
        refine WO_one rfl (One_index (d := 24) (t := 22) (e := 9) (x := (.tmp 22)) (y := (.tmp 23)) cStr (by kernel_rfl) rfl (show evL _ _ = some (.slice a1 (List.length p0) c1) from (by kernel_rfl)) (show evL _ _ = some (.int .i64 p1) from (by kernel_rfl)) (by kernel_rfl) r1 hx2 ?_)
        rintro b2 f1 cs1 rfl hq1
        refine WO_one rfl (One_load_row (d := 25) (t := 9) (x := (.tmp 24)) (.string x1) (by kernel_rfl) rfl (show evL _ _ = some (.pointer (some ⟨b2, f1, none⟩)) from (by kernel_rfl)) st hq1 (by kernel_rfl) ?_)
        refine WO_seg 2 [(4, .string x1), (5, .int .i64 0)] (by kernel_rfl) (by kernel_rfl) ?_
        refine WO_end rfl ?_
        refine X_then ?_
        refine W_ret ?_
        obtain rfl := Option.some.inj hr
        refine X_ret [.tmp 4, .tmp 5] [.string x1, .int .i64 0] rfl (ResAll.cons (ResAt.tmp (by kernel_rfl)) (ResAll.cons (ResAt.tmp (by kernel_rfl)) ResAll.nil)) ?_
        exact ⟨m3, rfl, hm, st⟩
    · intro K
      clear hrK
      refine WO_seg 3 [(14, .bool (decide (p1 < 0)))] (by kernel_rfl) (by kernel_rfl) ?_
      rcases bcases (decide (p1 < 0)) with hc | hc
      · rw [if_pos hc] at hr
        refine WO_fact (t := 14) (b := true) (decide (p1 < 0)) (by kernel_rfl) hc ?_
        refine WO_seg 6 [(20, .bool true)] (by kernel_rfl) (by kernel_rfl) ?_
        obtain rfl := Option.some.inj hr
        exact WO_env _ (by kernel_rfl) (K _ _ ⟨m2, rfl, hm, st, hb1, r1⟩)
      · rw [if_neg (not_true hc)] at hr
        refine WO_fact (t := 14) (b := false) (decide (p1 < 0)) (by kernel_rfl) hc ?_
        refine WO_seg 2 [(15, .int .i64 p1), (16, .pointer (some ⟨b1, 0, none⟩))] (by kernel_rfl) (by kernel_rfl) ?_
        refine WO_one rfl (One_load_row (d := 17) (t := 22) (x := (.tmp 16)) (.slice a1 (List.length p0) c1) (by kernel_rfl) rfl (show evL _ _ = some (.pointer (some ⟨b1, 0, none⟩)) from (by kernel_rfl)) st hb1 (by kernel_rfl) ?_)
        refine WO_seg 3 [(20, .bool (decide (p1 ≥ (List.length p0 : Int))))] (by kernel_rfl) (by kernel_rfl) ?_
        obtain rfl := Option.some.inj hr
        exact WO_env _ (by kernel_rfl) (K _ _ ⟨m2, rfl, hm, st, hb1, r1⟩)

def contents_Keep_L1 (N : Nat) (p0 : List ByteArray) (p1 : List Int) (s1 : Int × List (Bool)) : Option ((Int × List (Bool)) ⊕ ((List (Bool)) ⊕ (List ByteArray × List Int × Int))) :=
  if (decide (s1.1 < (List.length p1 : Int))) = true then ((idx p1 s1.1).bind fun x1 => (if (decide (x1 < 0)) = true then (some true) else (some (decide (x1 ≥ ((Int.toNat (List.length p0 : Int)) : Int)))) : Option (Bool)).bind fun o2 => if o2 = true then (some (.inr (.inr ((([] : List (ByteArray)), ([] : List (Int)), 20))))) else ((idx s1.2 x1).bind fun x2 => some (.inl (IntKind.wrap .i64 (s1.1 + 1), List.set s1.2 (Int.toNat x1) true)))) else (some (.inr (.inl s1.2)))

def contents_Keep_L2 (N : Nat) (p0 : List ByteArray) (o1 : List (Bool)) (s2 : List (Int) × Int × List (ByteArray)) : Option ((List (Int) × Int × List (ByteArray)) ⊕ ((List (Int) × List (ByteArray)))) :=
  if (decide (s2.2.1 < (List.length p0 : Int))) = true then (((idx p0 s2.2.1).bind fun x3 => (idx o1 s2.2.1).bind fun x4 => if (!x4) = true then ((appendS 8 s2.1 ([(-1)])).bind fun l2 => some (l2, s2.2.2)) else ((appendS 8 s2.1 ([(List.length s2.2.2 : Int)])).bind fun l3 => (appendS 16 s2.2.2 ([x3])).bind fun l4 => some (l3, l4)) : Option (List (Int) × List (ByteArray))).bind fun o4 => some (.inl (o4.1, IntKind.wrap .i64 (s2.2.1 + 1), o4.2))) else (some (.inr (s2.1, s2.2.2)))

def contents_Keep (N : Nat) (p0 : List ByteArray) (p1 : List Int) : Option (List ByteArray × List Int × Int) :=
  (contents_Check N p0).bind fun y1 => if (y1 != 0) = true then (some (([] : List (ByteArray)), ([] : List (Int)), y1)) else ((makeA 1 false (List.length p0 : Int)).bind fun l1 => (loopM (contents_Keep_L1 N p0 p1) N (0, l1)).bind fun out1 => (match out1 with | .inl o1 => (loopM (contents_Keep_L2 N p0 o1) N (([] : List (Int)), 0, ([] : List (ByteArray)))).bind fun o3 => some (o3.2, o3.1, 0) | .inr (z) => some z))

set_option maxHeartbeats 4000000 in
set_option maxRecDepth 100000 in
theorem contents_Keep_ok {N : Nat} {m : Mem} {own : List Piece} {w : World} {p0 : List ByteArray} {p1 : List Int} {a1 : Option Addr} {c1 : Nat} {a2 : Option Addr} {c2 : Nat} {r : List ByteArray × List Int × Int} (st : St m (own) w) (r1 : RepS cStr m a1 c1 p0) (r2 : RepS (cInt .i64) m a2 c2 p1) (hr : contents_Keep N p0 p1 = some r) : Calls Go.Proofs.Try.prog 26 #[.agg #[.slice a1 (List.length p0) c1], .slice a2 (List.length p1) c2] w fun e w' => ∃ (ra1 : Option Addr) (rc1 : Nat) (ra2 : Option Addr) (rc2 : Nat) (m' : Mem), e = .returned (.tuple #[.agg #[.slice ra1 (List.length r.1) rc1], .slice ra2 (List.length r.2.1) rc2, .int .i64 r.2.2]) ∧ m.le m' ∧ St m' (.room ra1 (List.length r.1) rc1 9 1 :: .room ra2 (List.length r.2.1) rc2 3 1 :: own) w' ∧ RepS cStr m' ra1 rc1 r.1 ∧ RepS (cInt .i64) m' ra2 rc2 r.2.1 := by
  unfold contents_Keep at hr
  have hm := m.le_refl
  refine W_calls Go.Proofs.Try.func26 rfl Go.Proofs.Try.ntmps26 [(0, .agg #[.slice a1 (List.length p0) c1]), (1, .slice a2 (List.length p1) c2)] (by kernel_rfl) rfl ?_
  refine W_seq ?_
  refine W_region ?_
  refine WO_one rfl (One_box (d := 2) (e := 24) (x := (.tmp 0)) (.agg #[.slice a1 (List.length p0) c1]) (by kernel_rfl) rfl (by kernel_rfl) st ?_)
  clear st
  intro b1 m1 w1 hle1 st hb1
  have hm := Mem.le_trans hm hle1
  have r1 := r1.mono hle1
  have r2 := r2.mono hle1
  refine WO_one rfl (One_alloc (d := 4) (e := 24) (.agg #[.slice none 0 0]) (by kernel_rfl) rfl (by kernel_rfl) st ?_)
  clear st
  intro b2 w2 st
  refine WO_seg 2 [] (by kernel_rfl) (by kernel_rfl) ?_
  refine WO_end rfl ?_
  refine X_then ?_
  refine W_seq ?_
  refine W_seq ?_
  refine W_region ?_
  refine WO_one rfl (One_load_row (d := 15) (t := 24) (x := (.tmp 2)) (.agg #[.slice a1 (List.length p0) c1]) (by kernel_rfl) rfl (show evL _ _ = some (.pointer (some ⟨b1, 0, none⟩)) from (by kernel_rfl)) st hb1 (by kernel_rfl) ?_)
  replace hr := bindS hr
  obtain ⟨y1, hx1, hr⟩ := hr
  refine WO_one rfl (One_fn 16 14 #[.agg #[.slice a1 (List.length p0) c1]] (by kernel_rfl) rfl ?_)
  refine (contents_Check_ok st r1 hx1).mono ?_
  clear st
  rintro _ w3 ⟨m2, rfl, hle2, st⟩
  refine ⟨_, rfl, ?_⟩
  have hm := Mem.le_trans hm hle2
  have r2 := r2.mono hle2
  have hb1 := hb1.mono hle2
  have r1 := r1.mono hle2
  refine WO_seg 1 [(7, .int .i64 y1)] (by kernel_rfl) (by kernel_rfl) ?_
  refine WO_end rfl ?_
  refine X_then ?_
  refine W_seq ?_
  refine W_region ?_
  refine WO_seg 2 [(18, .bool (y1 != 0))] (by kernel_rfl) (by kernel_rfl) ?_
  refine WO_end rfl ?_
  refine X_then ?_
  refine W_cond (y1 != 0) (by kernel_rfl) ?_ ?_
  · intro hc
    rw [if_pos hc] at hr
    refine W_seq ?_
    refine W_region ?_
    refine WO_seg 2 [(19, .agg #[.slice none (List.length ([] : List (ByteArray))) 0]), (20, .int .i64 y1)] (by kernel_rfl) (by kernel_rfl) ?_
    refine WO_one rfl (One_store (t := 24) (x := (.tmp 4)) (y := (.tmp 19)) (v := .agg #[.slice none (List.length ([] : List (ByteArray))) 0]) (c' := #[.slice none (List.length ([] : List (ByteArray))) 0]) (by kernel_rfl) (show evL _ _ = some (.pointer (some ⟨b2, 0, none⟩)) from (by kernel_rfl)) (show evL _ _ = some (.agg #[.slice none (List.length ([] : List (ByteArray))) 0]) from (by kernel_rfl)) st (by kernel_rfl) (by kernel_rfl) ?_)
    clear st
    intro w4 st
    refine WO_seg 2 [(5, .slice none (List.length ([] : List (Int))) 0), (6, .int .i64 y1)] (by kernel_rfl) (by kernel_rfl) ?_
    refine WO_end rfl ?_
    refine X_then ?_
    refine W_ret ?_
    refine X_then_ret ?_
    obtain rfl := Option.some.inj hr
    refine X_ret [.cell 4 24, .tmp 5, .tmp 6] [.agg #[.slice none (List.length ([] : List (ByteArray))) 0], .slice none (List.length ([] : List (Int))) 0, .int .i64 y1] rfl (ResAll.cons (ResAt.blk (v := .agg #[.slice none (List.length ([] : List (ByteArray))) 0]) (o := 0) (by kernel_rfl) st.head (by kernel_rfl)) (ResAll.cons (ResAt.tmp (by kernel_rfl)) (ResAll.cons (ResAt.tmp (by kernel_rfl)) ResAll.nil))) ?_
    have st := st.nilroom 9 1
    have st := st.nilroom 3 1
    have st := st.front2
    have st := st.tail
    have st := st.front1
    exact ⟨none, 0, none, 0, m2, rfl, hm, st, (RepS.nil _ _), (RepS.nil _ _)⟩
  · intro hc
    rw [if_neg (not_true hc)] at hr
    refine W_skip ?_
    refine X_then ?_
    refine W_seq ?_
    refine W_region ?_
    refine WO_seg 1 [(21, .pointer (some ⟨b1, 0, none⟩))] (by kernel_rfl) (by kernel_rfl) ?_
    refine WO_one rfl (One_load_row (d := 22) (t := 22) (x := (.tmp 21)) (.slice a1 (List.length p0) c1) (by kernel_rfl) rfl (show evL _ _ = some (.pointer (some ⟨b1, 0, none⟩)) from (by kernel_rfl)) st hb1 (by kernel_rfl) ?_)
    refine WO_seg 1 [(23, .int .i64 (List.length p0 : Int))] (by kernel_rfl) (by kernel_rfl) ?_
    replace hr := bindS hr
    obtain ⟨l1, hx2, hr⟩ := hr
    refine WO_one rfl (One_makeArr (d := 24) (t := 98) (e := 4) (by_ := 1) (x := (.tmp 23)) (y := (.tmp 23)) (fun x : Bool => Value.bool x) (by kernel_rfl) rfl (show evL _ _ = some (.int .i64 (List.length p0 : Int)) from (by kernel_rfl)) (show evL _ _ = some (.int .i64 (List.length p0 : Int)) from (by kernel_rfl)) (by kernel_rfl) (by kernel_rfl) rfl st hx2 ?_)
    clear st
    intro b3 w5 hn1 st
    refine WO_seg 1 [(8, .slice (some ⟨b3, 0, none⟩) (Int.toNat (List.length p0 : Int)) (Int.toNat (List.length p0 : Int)))] (by kernel_rfl) (by kernel_rfl) ?_
    refine WO_end rfl ?_
    refine X_then ?_
    refine W_seq ?_
    refine W_seq ?_
    refine W_region ?_
    refine WO_seg 3 [(25, .slice a2 (List.length p1) c2), (26, .int .i64 (List.length p1 : Int)), (27, .int .i64 0)] (by kernel_rfl) (by kernel_rfl) ?_
    refine WO_end rfl ?_
    refine X_then ?_
    refine W_block ?_
    replace hr := bindS hr
    obtain ⟨out1, hr, hrKu1⟩ := hr
    refine W_cut (.exit 0) (fun L' w' => ∃ (o1 : List (Bool)) (m3 : Mem), (.inl o1) = out1 ∧ L' = [(2, .pointer (some ⟨b1, 0, none⟩)), (4, .pointer (some ⟨b2, 0, none⟩)), (8, .slice (some ⟨b3, 0, none⟩) (Int.toNat (List.length p0 : Int)) (Int.toNat (List.length p0 : Int)))] ∧ m.le m3 ∧ St m3 (.blk b2 (.cells #[.slice none (List.length ([] : List (ByteArray))) 0] 24 (0, 0)) :: .blk b3 (.cells (acells (fun x : Bool => Value.bool x) o1 []) 4 (0, 0)) :: own) w' ∧ MRow m3 b1 0 [.slice a1 (List.length p0) c1] ∧ RepS cStr m3 a1 c1 p0 ∧ List.length o1 = (Int.toNat (List.length p0 : Int))) ?_ ?_
    · clear hr st
      rintro _ w6 ⟨o1, m3, rfl, rfl, hm, st, hb1, r1, hn2⟩
      have hr := hrKu1
      clear hrKu1
      dsimp only at hr
      refine X_block_eq ?_
      refine X_then ?_
      refine W_seq ?_
      refine W_region ?_
      refine WO_one rfl (One_alloc (d := 11) (e := 24) (.agg #[.slice none 0 0]) (by kernel_rfl) rfl (by kernel_rfl) st ?_)
      clear st
      intro b5 w11 st
      refine WO_end rfl ?_
      refine X_then ?_
      refine W_seq ?_
      refine W_region ?_
      refine WO_seg 1 [(12, .slice none (List.length ([] : List (Int))) 0)] (by kernel_rfl) (by kernel_rfl) ?_
      refine WO_end rfl ?_
      refine X_then ?_
      refine W_seq ?_
      refine W_seq ?_
      refine W_region ?_
      refine WO_seg 1 [(44, .pointer (some ⟨b1, 0, none⟩))] (by kernel_rfl) (by kernel_rfl) ?_
      refine WO_one rfl (One_load_row (d := 45) (t := 22) (x := (.tmp 44)) (.slice a1 (List.length p0) c1) (by kernel_rfl) rfl (show evL _ _ = some (.pointer (some ⟨b1, 0, none⟩)) from (by kernel_rfl)) st hb1 (by kernel_rfl) ?_)
      refine WO_seg 2 [(46, .int .i64 (List.length p0 : Int)), (47, .int .i64 0)] (by kernel_rfl) (by kernel_rfl) ?_
      refine WO_end rfl ?_
      refine X_then ?_
      refine W_block ?_
      replace hr := bindS hr
      obtain ⟨out2, hr, hrKu3⟩ := hr
      refine W_cut (.exit 2) (fun L' w' => ∃ (o3 : List (Int) × List (ByteArray)) (a3 : Option Addr) (c3 : Nat) (a4 : Option Addr) (c4 : Nat) (m6 : Mem), o3 = out2 ∧ L' = [(4, .pointer (some ⟨b2, 0, none⟩)), (11, .pointer (some ⟨b5, 0, none⟩)), (12, .slice a3 (List.length o3.1) c3)] ∧ m.le m6 ∧ St m6 (.blk b5 (.cells #[.slice a4 (List.length o3.2) c4] 24 (0, 0)) :: .blk b2 (.cells #[.slice none (List.length ([] : List (ByteArray))) 0] 24 (0, 0)) :: .blk b3 (.cells (acells (fun x : Bool => Value.bool x) o1 []) 4 (0, 0)) :: .room a3 (List.length o3.1) c3 3 1 :: .room a4 (List.length o3.2) c4 9 1 :: own) w' ∧ RepS (cInt .i64) m6 a3 c3 o3.1 ∧ RepS cStr m6 a4 c4 o3.2 ∧ List.length o1 = (Int.toNat (List.length p0 : Int))) ?_ ?_
      · clear hr st
        rintro _ w12 ⟨o3, a3, c3, a4, c4, m6, rfl, rfl, hm, st, r3, r4, hn2⟩
        have hr := hrKu3
        clear hrKu3
        refine X_block_eq ?_
        refine X_then ?_
        refine W_seq ?_
        refine W_region ?_
        refine WO_one rfl (One_load_own (d := 73) (t := 24) (x := (.tmp 11)) (.agg #[.slice a4 (List.length o3.2) c4]) (by kernel_rfl) rfl (show evL _ _ = some (.pointer (some ⟨b5, 0, none⟩)) from (by kernel_rfl)) st.head (by kernel_rfl) ?_)
        refine WO_seg 1 [(74, .slice a3 (List.length o3.1) c3)] (by kernel_rfl) (by kernel_rfl) ?_
        have st := st.front1
        refine WO_one rfl (One_store (t := 24) (x := (.tmp 4)) (y := (.tmp 73)) (v := .agg #[.slice a4 (List.length o3.2) c4]) (c' := #[.slice a4 (List.length o3.2) c4]) (by kernel_rfl) (show evL _ _ = some (.pointer (some ⟨b2, 0, none⟩)) from (by kernel_rfl)) (show evL _ _ = some (.agg #[.slice a4 (List.length o3.2) c4]) from (by kernel_rfl)) st (by kernel_rfl) (by kernel_rfl) ?_)
        clear st
        intro w22 st
        refine WO_seg 2 [(5, .slice a3 (List.length o3.1) c3), (6, .int .i64 0)] (by kernel_rfl) (by kernel_rfl) ?_
        refine WO_end rfl ?_
        refine X_then ?_
        refine W_ret ?_
        obtain rfl := Option.some.inj hr
        refine X_ret [.cell 4 24, .tmp 5, .tmp 6] [.agg #[.slice a4 (List.length o3.2) c4], .slice a3 (List.length o3.1) c3, .int .i64 0] rfl (ResAll.cons (ResAt.blk (v := .agg #[.slice a4 (List.length o3.2) c4]) (o := 0) (by kernel_rfl) st.head (by kernel_rfl)) (ResAll.cons (ResAt.tmp (by kernel_rfl)) (ResAll.cons (ResAt.tmp (by kernel_rfl)) ResAll.nil))) ?_
        have st := st.tail
        have st := st.tail
        have st := st.tail
        have st := st.front1
        exact ⟨a4, c4, a3, c3, m6, rfl, hm, st, r4, r3⟩
      intro K2_u3
      clear hrKu3
      have st := st.nilroom 3 1
      have st := st.nilroom 9 1
      have st := st.front1
      have st := st.front4
      have st := st.front4
      have st := st.front4
      refine W_env _ (by kernel_rfl) (W_loop (fun k2 L' w' => ∃ (s2 : List (Int) × Int × List (ByteArray)) (a5 : Option Addr) (c5 : Nat) (a6 : Option Addr) (c6 : Nat) (m7 : Mem), loopM (contents_Keep_L2 N p0 o1) k2 s2 = some out2 ∧ L' = [(4, .pointer (some ⟨b2, 0, none⟩)), (8, .slice (some ⟨b3, 0, none⟩) (Int.toNat (List.length p0 : Int)) (Int.toNat (List.length p0 : Int))), (11, .pointer (some ⟨b5, 0, none⟩)), (12, .slice a5 (List.length s2.1) c5), (45, .slice a1 (List.length p0) c1), (46, .int .i64 (List.length p0 : Int)), (47, .int .i64 s2.2.1)] ∧ m.le m7 ∧ St m7 (.blk b5 (.cells #[.slice a6 (List.length s2.2.2) c6] 24 (0, 0)) :: .blk b2 (.cells #[.slice none (List.length ([] : List (ByteArray))) 0] 24 (0, 0)) :: .blk b3 (.cells (acells (fun x : Bool => Value.bool x) o1 []) 4 (0, 0)) :: .room a5 (List.length s2.1) c5 3 1 :: .room a6 (List.length s2.2.2) c6 9 1 :: own) w' ∧ RepS (cInt .i64) m7 a5 c5 s2.1 ∧ RepS cStr m7 a1 c1 p0 ∧ RepS cStr m7 a6 c6 s2.2.2 ∧ List.length o1 = (Int.toNat (List.length p0 : Int))) N ⟨(([] : List (Int)), 0, ([] : List (ByteArray))), none, 0, none, 0, m3, hr, rfl, hm, st, (RepS.nil _ _), r1, (RepS.nil _ _), hn2⟩ ?_)
      clear st hr
      rintro k2 _ w13 ⟨s2, a5, c5, a6, c6, m7, hL, rfl, hm, st, r5, r1, r6, hn2⟩
      rcases k2 with _ | k2
      · exact loopM_zero hL
      · obtain ⟨qu3, hr, hSu3, hBu3⟩ := loopM_succ hL
        clear hL
        unfold contents_Keep_L2 at hr
        refine W_seq ?_
        refine W_region ?_
        refine WO_seg 1 [(48, .bool (decide (s2.2.1 < (List.length p0 : Int))))] (by kernel_rfl) (by kernel_rfl) ?_
        refine WO_end rfl ?_
        refine X_then ?_
        refine W_seq ?_
        refine W_cond (decide (s2.2.1 < (List.length p0 : Int))) (by kernel_rfl) ?_ ?_
        · intro hc
          rw [if_pos hc] at hr
          refine W_skip ?_
          refine X_then ?_
          refine W_seq ?_
          replace hr := bindS hr
          obtain ⟨o4, hr, hrKu4⟩ := hr
          refine W_cut .normal (fun L' w' => ∃ (a7 : Option Addr) (c7 : Nat) (a8 : Option Addr) (c8 : Nat) (m8 : Mem), L' = [(4, .pointer (some ⟨b2, 0, none⟩)), (8, .slice (some ⟨b3, 0, none⟩) (Int.toNat (List.length p0 : Int)) (Int.toNat (List.length p0 : Int))), (11, .pointer (some ⟨b5, 0, none⟩)), (12, .slice a7 (List.length o4.1) c7), (45, .slice a1 (List.length p0) c1), (46, .int .i64 (List.length p0 : Int)), (47, .int .i64 s2.2.1)] ∧ m.le m8 ∧ St m8 (.blk b5 (.cells #[.slice a8 (List.length o4.2) c8] 24 (0, 0)) :: .blk b2 (.cells #[.slice none (List.length ([] : List (ByteArray))) 0] 24 (0, 0)) :: .blk b3 (.cells (acells (fun x : Bool => Value.bool x) o1 []) 4 (0, 0)) :: .room a7 (List.length o4.1) c7 3 1 :: .room a8 (List.length o4.2) c8 9 1 :: own) w' ∧ RepS (cInt .i64) m8 a7 c7 o4.1 ∧ RepS cStr m8 a1 c1 p0 ∧ RepS cStr m8 a8 c8 o4.2 ∧ List.length o1 = (Int.toNat (List.length p0 : Int))) ?_ ?_
          · clear hr st
            have hr := hrKu4
            clear hrKu4
            rintro _ w14 ⟨a7, c7, a8, c8, m8, rfl, hm, st, r7, r1, r8, hn2⟩
            refine X_then ?_
            refine W_region ?_
            refine WO_seg 2 [(47, .int .i64 (IntKind.wrap .i64 (s2.2.1 + 1)))] (by kernel_rfl) (by kernel_rfl) ?_
            refine WO_end rfl ?_
            obtain rfl := Option.some.inj hr
            have hL := hSu3 _ rfl
            have st := st.front4
            have st := st.front4
            have st := st.front4
            have st := st.front4
            have st := st.front4
            exact X_env _ (by kernel_rfl) (X_round k2 (Nat.lt_succ_self _) ⟨(o4.1, IntKind.wrap .i64 (s2.2.1 + 1), o4.2), a7, c7, a8, c8, m8, hL, rfl, hm, st, r7, r1, r8, hn2⟩)
          · intro Ku4
            clear hrKu4
            refine W_block ?_
            refine W_seq ?_
            refine W_region ?_
            refine WO_seg 1 [(49, .int .i64 s2.2.1)] (by kernel_rfl) (by kernel_rfl) ?_
            replace hr := bindS hr
            obtain ⟨x3, hx5, hr⟩ := hr
            refine WO_one rfl (One_index (d := 50) (t := 22) (e := 9) (x := (.tmp 45)) (y := (.tmp 47)) cStr (by kernel_rfl) rfl (show evL _ _ = some (.slice a1 (List.length p0) c1) from (by kernel_rfl)) (show evL _ _ = some (.int .i64 s2.2.1) from (by kernel_rfl)) (by kernel_rfl) r1 hx5 ?_)
            rintro b6 f2 cs2 rfl hq2
            refine WO_one rfl (One_load_row (d := 51) (t := 9) (x := (.tmp 50)) (.string x3) (by kernel_rfl) rfl (show evL _ _ = some (.pointer (some ⟨b6, f2, none⟩)) from (by kernel_rfl)) st hq2 (by kernel_rfl) ?_)
            refine WO_seg 2 [(13, .int .i64 s2.2.1), (14, .string x3)] (by kernel_rfl) (by kernel_rfl) ?_
            refine WO_end rfl ?_
            refine X_then ?_
            refine W_seq ?_
            refine W_seq ?_
            refine W_region ?_
            refine WO_seg 2 [(52, .slice (some ⟨b3, 0, none⟩) (Int.toNat (List.length p0 : Int)) (Int.toNat (List.length p0 : Int))), (53, .int .i64 s2.2.1)] (by kernel_rfl) (by kernel_rfl) ?_
            replace hr := bindS hr
            obtain ⟨x4, hx6, hr⟩ := hr
            refine WO_one rfl (One_arrIndex (d := 54) (t := 98) (e := 4) (x := (.tmp 52)) (y := (.tmp 53)) (by kernel_rfl) rfl (show evL _ _ = some (.slice (some ⟨b3, 0, none⟩) (Int.toNat (List.length p0 : Int)) (Int.toNat (List.length p0 : Int))) from (by kernel_rfl)) (show evL _ _ = some (.int .i64 s2.2.1) from (by kernel_rfl)) (by kernel_rfl) hn2 hx6 ?_)
            refine WO_one rfl (One_arrLoad (d := 55) (t := 4) (x := (.tmp 54)) (by kernel_rfl) rfl (show evL _ _ = some (.pointer (some ⟨b3, Int.toNat s2.2.1, none⟩)) from (by kernel_rfl)) st.tail.tail.head hx6 (by kernel_rfl) ?_)
            refine WO_seg 1 [(56, .bool (!x4))] (by kernel_rfl) (by kernel_rfl) ?_
            refine WO_end rfl ?_
            refine X_then ?_
            refine W_cond (!x4) (by kernel_rfl) ?_ ?_
            · intro hc
              rw [if_pos hc] at hr
              refine W_seq ?_
              refine W_region ?_
              refine WO_seg 1 [(57, .slice a5 (List.length s2.1) c5)] (by kernel_rfl) (by kernel_rfl) ?_
              refine WO_one rfl (One_buildSlice (d := 58) (t := 32) (e := 3) (len := 1) (parts := #[(0, (.const (.int .i64 (-1))))]) (cInt .i64) (xs := [(-1)]) [.int .i64 (-1)] (by kernel_rfl) rfl (fun _ => buildCells_run (by kernel_rfl) _) rfl rfl st ⟨[.int .i64 (-1)], _, rfl, rfl, rfl⟩ ?_)
              clear st
              intro b7 m9 w15 hle3 st r9
              have hm := Mem.le_trans hm hle3
              have r5 := r5.mono hle3
              have r1 := r1.mono hle3
              have r6 := r6.mono hle3
              have st := st.front4
              replace hr := bindS hr
              obtain ⟨l2, hx7, hr⟩ := hr
              refine WO_one rfl (One_append (d := 59) (t := 32) (u := 32) (e := 3) (by_ := 8) (x := (.tmp 57)) (y := (.tmp 58)) (cInt .i64) (by kernel_rfl) rfl (show evL _ _ = some (.slice a5 (List.length s2.1) c5) from (by kernel_rfl)) (show evL _ _ = some (.slice (some ⟨b7, 0, none⟩) (List.length ([(-1)])) 1) from (by kernel_rfl)) st (by kernel_rfl) (.inl (by kernel_rfl)) r5 r9.src hx7 ?_)
              clear st
              intro a9 c9 m10 w16 hle4 st r10
              have hm := Mem.le_trans hm hle4
              have r5 := r5.mono hle4
              have r1 := r1.mono hle4
              have r9 := r9.mono hle4
              have r6 := r6.mono hle4
              refine WO_seg 1 [(12, .slice a9 (List.length l2) c9)] (by kernel_rfl) (by kernel_rfl) ?_
              refine WO_end rfl ?_
              have st := st.front1
              have st := st.tail
              refine X_then ?_
              refine W_exit ?_
              refine X_then_exit ?_
              refine X_block_eq ?_
              obtain rfl := Option.some.inj hr
              have st := st.front4
              have st := st.front1
              have st := st.front4
              have st := st.front4
              have st := st.front4
              exact X_env _ (by kernel_rfl) (Ku4 _ _ ⟨a9, c9, a6, c6, m10, rfl, hm, st, r10, r1, r6, hn2⟩)
            · intro hc
              rw [if_neg (not_true hc)] at hr
              refine W_skip ?_
              refine X_then ?_
              refine W_seq ?_
              refine W_region ?_
              refine WO_seg 2 [(60, .slice a5 (List.length s2.1) c5), (61, .pointer (some ⟨b5, 0, none⟩))] (by kernel_rfl) (by kernel_rfl) ?_
              refine WO_one rfl (One_load_own (d := 62) (t := 22) (x := (.tmp 61)) (.slice a6 (List.length s2.2.2) c6) (by kernel_rfl) rfl (show evL _ _ = some (.pointer (some ⟨b5, 0, none⟩)) from (by kernel_rfl)) st.head (by kernel_rfl) ?_)
              refine WO_seg 1 [(63, .int .i64 (List.length s2.2.2 : Int))] (by kernel_rfl) (by kernel_rfl) ?_
              refine WO_one rfl (One_buildSlice (d := 64) (t := 32) (e := 3) (len := 1) (parts := #[(0, (.tmp 63))]) (cInt .i64) (xs := [(List.length s2.2.2 : Int)]) [.int .i64 (List.length s2.2.2 : Int)] (by kernel_rfl) rfl (fun _ => buildCells_run (by kernel_rfl) _) rfl rfl st ⟨[.int .i64 (List.length s2.2.2 : Int)], _, rfl, rfl, rfl⟩ ?_)
              clear st
              intro b8 m11 w17 hle5 st r11
              have hm := Mem.le_trans hm hle5
              have r5 := r5.mono hle5
              have r1 := r1.mono hle5
              have r6 := r6.mono hle5
              have st := st.front4
              replace hr := bindS hr
              obtain ⟨l3, hx8, hr⟩ := hr
              refine WO_one rfl (One_append (d := 65) (t := 32) (u := 32) (e := 3) (by_ := 8) (x := (.tmp 60)) (y := (.tmp 64)) (cInt .i64) (by kernel_rfl) rfl (show evL _ _ = some (.slice a5 (List.length s2.1) c5) from (by kernel_rfl)) (show evL _ _ = some (.slice (some ⟨b8, 0, none⟩) (List.length ([(List.length s2.2.2 : Int)])) 1) from (by kernel_rfl)) st (by kernel_rfl) (.inl (by kernel_rfl)) r5 r11.src hx8 ?_)
              clear st
              intro a10 c10 m12 w18 hle6 st r12
              have hm := Mem.le_trans hm hle6
              have r5 := r5.mono hle6
              have r1 := r1.mono hle6
              have r6 := r6.mono hle6
              have r11 := r11.mono hle6
              refine WO_seg 1 [(12, .slice a10 (List.length l3) c10)] (by kernel_rfl) (by kernel_rfl) ?_
              refine WO_end rfl ?_
              have st := st.front1
              have st := st.tail
              refine X_then ?_
              refine W_region ?_
              refine WO_seg 1 [(66, .pointer (some ⟨b5, 0, none⟩))] (by kernel_rfl) (by kernel_rfl) ?_
              refine WO_one rfl (One_load_own (d := 67) (t := 22) (x := (.tmp 66)) (.slice a6 (List.length s2.2.2) c6) (by kernel_rfl) rfl (show evL _ _ = some (.pointer (some ⟨b5, 0, none⟩)) from (by kernel_rfl)) st.tail.head (by kernel_rfl) ?_)
              refine WO_seg 1 [(68, .string x3)] (by kernel_rfl) (by kernel_rfl) ?_
              refine WO_one rfl (One_buildSlice (d := 69) (t := 22) (e := 9) (len := 1) (parts := #[(0, (.tmp 68))]) cStr (xs := [x3]) [.string x3] (by kernel_rfl) rfl (fun _ => buildCells_run (by kernel_rfl) _) rfl rfl st ⟨[.string x3], _, rfl, rfl, rfl⟩ ?_)
              clear st
              intro b9 m13 w19 hle7 st r13
              have hm := Mem.le_trans hm hle7
              have r12 := r12.mono hle7
              have r1 := r1.mono hle7
              have r6 := r6.mono hle7
              have st := st.front5
              replace hr := bindS hr
              obtain ⟨l4, hx9, hr⟩ := hr
              refine WO_one rfl (One_append (d := 70) (t := 22) (u := 22) (e := 9) (by_ := 16) (x := (.tmp 67)) (y := (.tmp 69)) cStr (by kernel_rfl) rfl (show evL _ _ = some (.slice a6 (List.length s2.2.2) c6) from (by kernel_rfl)) (show evL _ _ = some (.slice (some ⟨b9, 0, none⟩) (List.length ([x3])) 1) from (by kernel_rfl)) st (by kernel_rfl) (.inl (by kernel_rfl)) r6 r13.src hx9 ?_)
              clear st
              intro a11 c11 m14 w20 hle8 st r14
              have hm := Mem.le_trans hm hle8
              have r12 := r12.mono hle8
              have r1 := r1.mono hle8
              have r6 := r6.mono hle8
              have r13 := r13.mono hle8
              refine WO_seg 1 [(71, .pointer (some ⟨b5, 0, none⟩))] (by kernel_rfl) (by kernel_rfl) ?_
              have st := st.front3
              refine WO_one rfl (One_store (t := 22) (x := (.tmp 71)) (y := (.tmp 70)) (v := .slice a11 (List.length l4) c11) (c' := #[.slice a11 (List.length l4) c11]) (by kernel_rfl) (show evL _ _ = some (.pointer (some ⟨b5, 0, none⟩)) from (by kernel_rfl)) (show evL _ _ = some (.slice a11 (List.length l4) c11) from (by kernel_rfl)) st (by kernel_rfl) (by kernel_rfl) ?_)
              clear st
              intro w21 st
              refine WO_end rfl ?_
              have st := st.front2
              have st := st.tail
              refine X_block ?_
              obtain rfl := Option.some.inj hr
              have st := st.front1
              have st := st.front2
              have st := st.front4
              have st := st.front4
              have st := st.front4
              exact X_env _ (by kernel_rfl) (Ku4 _ _ ⟨a10, c10, a11, c11, m14, rfl, hm, st, r12, r1, r14, hn2⟩)
        · intro hc
          rw [if_neg (not_true hc)] at hr
          refine W_exit ?_
          refine X_then_exit ?_
          obtain rfl := Option.some.inj hr
          have ho := hBu3 _ rfl
          have st := st.front4
          have st := st.front4
          have st := st.front4
          have st := st.front4
          have st := st.front4
          refine X_then_exit ?_
          exact X_env _ (by kernel_rfl) (K2_u3 _ _ ⟨(s2.1, s2.2.2), a5, c5, a6, c6, m7, ho, rfl, hm, st, r5, r6, hn2⟩)
    intro K0_u1
    have st := st.front1
    refine W_env _ (by kernel_rfl) (W_loop (fun k1 L' w' => ∃ (s1 : Int × List (Bool)) (m4 : Mem), loopM (contents_Keep_L1 N p0 p1) k1 s1 = some out1 ∧ L' = [(2, .pointer (some ⟨b1, 0, none⟩)), (4, .pointer (some ⟨b2, 0, none⟩)), (8, .slice (some ⟨b3, 0, none⟩) (Int.toNat (List.length p0 : Int)) (Int.toNat (List.length p0 : Int))), (25, .slice a2 (List.length p1) c2), (26, .int .i64 (List.length p1 : Int)), (27, .int .i64 s1.1)] ∧ m.le m4 ∧ St m4 (.blk b2 (.cells #[.slice none (List.length ([] : List (ByteArray))) 0] 24 (0, 0)) :: .blk b3 (.cells (acells (fun x : Bool => Value.bool x) s1.2 []) 4 (0, 0)) :: own) w' ∧ MRow m4 b1 0 [.slice a1 (List.length p0) c1] ∧ RepS cStr m4 a1 c1 p0 ∧ RepS (cInt .i64) m4 a2 c2 p1 ∧ List.length s1.2 = (Int.toNat (List.length p0 : Int))) N ⟨(0, l1), m2, hr, rfl, hm, st, hb1, r1, r2, hn1⟩ ?_)
    clear st hr
    rintro k1 _ w7 ⟨s1, m4, hL, rfl, hm, st, hb1, r1, r2, hn3⟩
    rcases k1 with _ | k1
    · exact loopM_zero hL
    · obtain ⟨qu1, hr, hSu1, hBu1⟩ := loopM_succ hL
      clear hL
      unfold contents_Keep_L1 at hr
      refine W_seq ?_
      refine W_region ?_
      refine WO_seg 1 [(28, .bool (decide (s1.1 < (List.length p1 : Int))))] (by kernel_rfl) (by kernel_rfl) ?_
      refine WO_end rfl ?_
      refine X_then ?_
      refine W_seq ?_
      refine W_cond (decide (s1.1 < (List.length p1 : Int))) (by kernel_rfl) ?_ ?_
      · intro hc
        rw [if_pos hc] at hr
        refine W_skip ?_
        refine X_then ?_
        refine W_seq ?_
        refine W_block ?_
        refine W_seq ?_
        refine W_region ?_
        replace hr := bindS hr
        obtain ⟨x1, hx3, hr⟩ := hr
        refine WO_one rfl (One_index (d := 29) (t := 32) (e := 3) (x := (.tmp 25)) (y := (.tmp 27)) (cInt .i64) (by kernel_rfl) rfl (show evL _ _ = some (.slice a2 (List.length p1) c2) from (by kernel_rfl)) (show evL _ _ = some (.int .i64 s1.1) from (by kernel_rfl)) (by kernel_rfl) r2 hx3 ?_)
        rintro b4 f1 cs1 rfl hq1
        refine WO_one rfl (One_load_row (d := 30) (t := 3) (x := (.tmp 29)) (.int .i64 x1) (by kernel_rfl) rfl (show evL _ _ = some (.pointer (some ⟨b4, f1, none⟩)) from (by kernel_rfl)) st hq1 (by kernel_rfl) ?_)
        refine WO_seg 1 [(10, .int .i64 x1)] (by kernel_rfl) (by kernel_rfl) ?_
        refine WO_end rfl ?_
        refine X_then ?_
        refine W_seq ?_
        refine W_seq ?_
        refine W_region ?_
        replace hr := bindS hr
        obtain ⟨o2, hr, hrK⟩ := hr
        refine WO_cut (j := 8) (fun L' w' => ∃ (m5 : Mem), L' = [(2, .pointer (some ⟨b1, 0, none⟩)), (4, .pointer (some ⟨b2, 0, none⟩)), (8, .slice (some ⟨b3, 0, none⟩) (Int.toNat (List.length p0 : Int)) (Int.toNat (List.length p0 : Int))), (10, .int .i64 x1), (25, .slice a2 (List.length p1) c2), (26, .int .i64 (List.length p1 : Int)), (27, .int .i64 s1.1), (38, .bool o2)] ∧ m.le m5 ∧ St m5 (.blk b2 (.cells #[.slice none (List.length ([] : List (ByteArray))) 0] 24 (0, 0)) :: .blk b3 (.cells (acells (fun x : Bool => Value.bool x) s1.2 []) 4 (0, 0)) :: own) w' ∧ MRow m5 b1 0 [.slice a1 (List.length p0) c1] ∧ RepS cStr m5 a1 c1 p0 ∧ RepS (cInt .i64) m5 a2 c2 p1 ∧ List.length s1.2 = (Int.toNat (List.length p0 : Int))) ?_ ?_
        · clear hr st
          have hr := hrK
          clear hrK
          rintro _ w8 ⟨m5, rfl, hm, st, hb1, r1, r2, hn3⟩
          refine WO_end rfl ?_
          refine X_then ?_
          refine W_cond o2 (by kernel_rfl) ?_ ?_
          · intro hc
            rw [if_pos hc] at hr
            refine W_seq ?_
            refine W_region ?_
            refine WO_seg 1 [(39, .agg #[.slice none (List.length ([] : List (ByteArray))) 0])] (by kernel_rfl) (by kernel_rfl) ?_
            refine WO_one rfl (One_store (t := 24) (x := (.tmp 4)) (y := (.tmp 39)) (v := .agg #[.slice none (List.length ([] : List (ByteArray))) 0]) (c' := #[.slice none (List.length ([] : List (ByteArray))) 0]) (by kernel_rfl) (show evL _ _ = some (.pointer (some ⟨b2, 0, none⟩)) from (by kernel_rfl)) (show evL _ _ = some (.agg #[.slice none (List.length ([] : List (ByteArray))) 0]) from (by kernel_rfl)) st (by kernel_rfl) (by kernel_rfl) ?_)
            clear st
            intro w9 st
            refine WO_seg 2 [(5, .slice none (List.length ([] : List (Int))) 0), (6, .int .i64 20)] (by kernel_rfl) (by kernel_rfl) ?_
            refine WO_end rfl ?_
            refine X_then ?_
            refine W_ret ?_
            refine X_then_ret ?_
            refine X_block_ret ?_
            refine X_then_ret ?_
            obtain rfl := Option.some.inj hr
            have ho := hBu1 _ rfl
            subst ho
            have hr := hrKu1
            dsimp only at hr
            refine X_then_ret ?_
            refine X_block_ret ?_
            refine X_then_ret ?_
            obtain rfl := Option.some.inj hr
            refine X_ret [.cell 4 24, .tmp 5, .tmp 6] [.agg #[.slice none (List.length ([] : List (ByteArray))) 0], .slice none (List.length ([] : List (Int))) 0, .int .i64 20] rfl (ResAll.cons (ResAt.blk (v := .agg #[.slice none (List.length ([] : List (ByteArray))) 0]) (o := 0) (by kernel_rfl) st.head (by kernel_rfl)) (ResAll.cons (ResAt.tmp (by kernel_rfl)) (ResAll.cons (ResAt.tmp (by kernel_rfl)) ResAll.nil))) ?_
            have st := st.nilroom 9 1
            have st := st.nilroom 3 1
            have st := st.front2
            have st := st.tail
            have st := st.front2
            have st := st.tail
            have st := st.front1
            exact ⟨none, 0, none, 0, m5, rfl, hm, st, (RepS.nil _ _), (RepS.nil _ _)⟩
          · intro hc
            rw [if_neg (not_true hc)] at hr
            refine W_skip ?_
            refine X_then ?_
            refine W_region ?_
            refine WO_seg 2 [(40, .slice (some ⟨b3, 0, none⟩) (Int.toNat (List.length p0 : Int)) (Int.toNat (List.length p0 : Int))), (41, .int .i64 x1)] (by kernel_rfl) (by kernel_rfl) ?_
            replace hr := bindS hr
            obtain ⟨x2, hx4, hr⟩ := hr
            refine WO_one rfl (One_arrIndex (d := 42) (t := 98) (e := 4) (x := (.tmp 40)) (y := (.tmp 41)) (by kernel_rfl) rfl (show evL _ _ = some (.slice (some ⟨b3, 0, none⟩) (Int.toNat (List.length p0 : Int)) (Int.toNat (List.length p0 : Int))) from (by kernel_rfl)) (show evL _ _ = some (.int .i64 x1) from (by kernel_rfl)) (by kernel_rfl) hn3 hx4 ?_)
            have st := st.front1
            refine WO_one rfl (One_arrStore (f := (fun x : Bool => Value.bool x)) (u := true) (t := 4) (x := (.tmp 42)) (y := (.const (.bool true))) (by kernel_rfl) (show evL _ _ = some (.pointer (some ⟨b3, Int.toNat x1, none⟩)) from (by kernel_rfl)) (show evL _ _ = some (.bool true) from (by kernel_rfl)) st hx4 rfl (by kernel_rfl) ?_)
            clear st
            intro w10 st
            have hn4 : List.length (List.set s1.2 (Int.toNat x1) true) = (Int.toNat (List.length p0 : Int)) := set_len hn3 _ _
            refine WO_end rfl ?_
            refine X_block ?_
            refine X_then ?_
            refine W_region ?_
            refine WO_seg 2 [(27, .int .i64 (IntKind.wrap .i64 (s1.1 + 1)))] (by kernel_rfl) (by kernel_rfl) ?_
            refine WO_end rfl ?_
            obtain rfl := Option.some.inj hr
            have hL := hSu1 _ rfl
            have st := st.front1
            exact X_env _ (by kernel_rfl) (X_round k1 (Nat.lt_succ_self _) ⟨(IntKind.wrap .i64 (s1.1 + 1), List.set s1.2 (Int.toNat x1) true), m5, hL, rfl, hm, st, hb1, r1, r2, hn4⟩)
        · intro K
          clear hrK
          refine WO_seg 3 [(33, .bool (decide (x1 < 0)))] (by kernel_rfl) (by kernel_rfl) ?_
          rcases bcases (decide (x1 < 0)) with hc | hc
          · rw [if_pos hc] at hr
            refine WO_fact (t := 33) (b := true) (decide (x1 < 0)) (by kernel_rfl) hc ?_
            refine WO_seg 5 [(38, .bool true)] (by kernel_rfl) (by kernel_rfl) ?_
            obtain rfl := Option.some.inj hr
            have st := st.front1
            have st := st.front1
            exact WO_env _ (by kernel_rfl) (K _ _ ⟨m4, rfl, hm, st, hb1, r1, r2, hn3⟩)
          · rw [if_neg (not_true hc)] at hr
            refine WO_fact (t := 33) (b := false) (decide (x1 < 0)) (by kernel_rfl) hc ?_
            refine WO_seg 5 [(38, .bool (decide (x1 ≥ ((Int.toNat (List.length p0 : Int)) : Int))))] (by kernel_rfl) (by kernel_rfl) ?_
            obtain rfl := Option.some.inj hr
            have st := st.front1
            have st := st.front1
            exact WO_env _ (by kernel_rfl) (K _ _ ⟨m4, rfl, hm, st, hb1, r1, r2, hn3⟩)
      · intro hc
        rw [if_neg (not_true hc)] at hr
        refine W_exit ?_
        refine X_then_exit ?_
        obtain rfl := Option.some.inj hr
        have ho := hBu1 _ rfl
        have st := st.front1
        have st := st.front1
        refine X_then_exit ?_
        exact X_env _ (by kernel_rfl) (K0_u1 _ _ ⟨s1.2, m4, ho, rfl, hm, st, hb1, r1, hn3⟩)

end Go.Proofs.Ytgkjigejejofkaa
