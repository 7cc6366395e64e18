/- MADE BY gen.py: plain functions and the proofs that the Go functions compute them. No condition but those of each theorem. -/
import Derived.Test.YtgkjigejejofkaaProg
import Derived.Test.YtgkjigejejofkaaMap
namespace Go.Proofs.Ytgkjigejejofkaa
open Go Go.Dc

def testgatemake_Fold (N : Nat) (p0 : Int) (p1 : Int) : Option (Int) :=
  if (decide (p1 ≤ 1)) = true then (some 0) else ((remS p0 p1).bind fun i1 => (if (decide (i1 < 0)) = true then (some (IntKind.wrap .i64 (i1 + p1))) else (some i1) : Option (Int)).bind fun o1 => some o1)

set_option maxHeartbeats 4000000 in
set_option maxRecDepth 100000 in
theorem testgatemake_Fold_ok {N : Nat} {m : Mem} {own : List Piece} {w : World} {p0 : Int} {p1 : Int} {r : Int} (st : St m (own) w) (hr : testgatemake_Fold N p0 p1 = some r) : Calls Go.Proofs.Try.prog 42 #[.int .i64 p0, .int .i64 p1] w fun e w' => ∃ (m' : Mem), e = .returned (.int .i64 r) ∧ m.le m' ∧ St m' (own) w' := by
  unfold testgatemake_Fold at hr
  have hm := m.le_refl
  refine W_calls Go.Proofs.Try.func42 rfl Go.Proofs.Try.ntmps42 [(0, .int .i64 p0), (1, .int .i64 p1)] (by kernel_rfl) rfl ?_
  refine W_seq ?_
  refine W_region ?_
  refine WO_seg 1 [] (by kernel_rfl) (by kernel_rfl) ?_
  refine WO_end rfl ?_
  refine X_then ?_
  refine W_seq ?_
  refine W_seq ?_
  refine W_region ?_
  refine WO_seg 2 [(6, .bool (decide (p1 ≤ 1)))] (by kernel_rfl) (by kernel_rfl) ?_
  refine WO_end rfl ?_
  refine X_then ?_
  refine W_cond (decide (p1 ≤ 1)) (by kernel_rfl) ?_ ?_
  · intro hc
    rw [if_pos hc] at hr
    refine W_seq ?_
    refine W_region ?_
    refine WO_seg 1 [(4, .int .i64 0)] (by kernel_rfl) (by kernel_rfl) ?_
    refine WO_end rfl ?_
    refine X_then ?_
    refine W_ret ?_
    refine X_then_ret ?_
    obtain rfl := Option.some.inj hr
    refine X_ret [.tmp 4] [.int .i64 0] rfl (ResAll.cons (ResAt.tmp (by kernel_rfl)) ResAll.nil) ?_
    exact ⟨m, rfl, hm, st⟩
  · intro hc
    rw [if_neg (not_true hc)] at hr
    refine W_skip ?_
    refine X_then ?_
    refine W_seq ?_
    refine W_region ?_
    refine WO_seg 2 [(7, .int .i64 p0), (8, .int .i64 p1)] (by kernel_rfl) (by kernel_rfl) ?_
    replace hr := bindS hr
    obtain ⟨i1, hx1, hr⟩ := hr
    refine WO_one rfl (One_rem (d := 9) (t := 3) (t2 := 3) (x := (.tmp 7)) (y := (.tmp 8)) (by kernel_rfl) rfl (show evL _ _ = some (.int .i64 p0) from (by kernel_rfl)) (show evL _ _ = some (.int .i64 p1) from (by kernel_rfl)) hx1 ?_)
    refine WO_seg 1 [(0, .int .i64 i1)] (by kernel_rfl) (by kernel_rfl) ?_
    refine WO_end rfl ?_
    refine X_then ?_
    refine W_seq ?_
    refine W_seq ?_
    refine W_region ?_
    refine WO_seg 2 [(11, .bool (decide (i1 < 0)))] (by kernel_rfl) (by kernel_rfl) ?_
    refine WO_end rfl ?_
    refine X_then ?_
    replace hr := bindS hr
    obtain ⟨o1, hr, hrKu1⟩ := hr
    refine W_cut .normal (fun L' w' => ∃ (m1 : Mem), L' = [(0, .int .i64 o1)] ∧ m.le m1 ∧ St m1 (own) w') ?_ ?_
    · clear hr st
      have hr := hrKu1
      clear hrKu1
      rintro _ w1 ⟨m1, rfl, hm, st⟩
      refine X_then ?_
      refine W_seq ?_
      refine W_region ?_
      refine WO_seg 2 [(4, .int .i64 o1)] (by kernel_rfl) (by kernel_rfl) ?_
      refine WO_end rfl ?_
      refine X_then ?_
      refine W_ret ?_
      obtain rfl := Option.some.inj hr
      refine X_ret [.tmp 4] [.int .i64 o1] rfl (ResAll.cons (ResAt.tmp (by kernel_rfl)) ResAll.nil) ?_
      exact ⟨m1, rfl, hm, st⟩
    · intro Ku1
      clear hrKu1
      refine W_cond (decide (i1 < 0)) (by kernel_rfl) ?_ ?_
      · intro hc
        rw [if_pos hc] at hr
        refine W_region ?_
        refine WO_seg 4 [(0, .int .i64 (IntKind.wrap .i64 (i1 + p1)))] (by kernel_rfl) (by kernel_rfl) ?_
        refine WO_end rfl ?_
        obtain rfl := Option.some.inj hr
        exact X_env _ (by kernel_rfl) (Ku1 _ _ ⟨m, rfl, hm, st⟩)
      · intro hc
        rw [if_neg (not_true hc)] at hr
        refine W_skip ?_
        obtain rfl := Option.some.inj hr
        exact X_env _ (by kernel_rfl) (Ku1 _ _ ⟨m, rfl, hm, st⟩)

def testgatemake_Tape_Next (N : Nat) (p0 : List Int × Int) (p1 : Int) : Option ((List Int × Int) × Int) :=
  (if (decide (p0.2 < (List.length p0.1 : Int))) = true then ((idx p0.1 p0.2).bind fun x1 => some x1) else (some (Int.tmod (IntKind.wrap .i64 (p0.2 * 7)) 11)) : Option (Int)).bind fun o1 => (testgatemake_Fold N o1 p1).bind fun y1 => some ((p0.1, IntKind.wrap .i64 (p0.2 + 1)), y1)

set_option maxHeartbeats 4000000 in
set_option maxRecDepth 100000 in
theorem testgatemake_Tape_Next_ok {N : Nat} {m : Mem} {own : List Piece} {w : World} {p0 : List Int × Int} {p1 : Int} {bp0 : Nat} {a1 : Option Addr} {c1 : Nat} {r : (List Int × Int) × Int} (st : St m (.blk bp0 (.cells #[.slice a1 (List.length p0.1) c1, .int .i64 p0.2] 35 (0, 0)) :: own) w) (r1 : RepS (cInt .i64) m a1 c1 p0.1) (hr : testgatemake_Tape_Next N p0 p1 = some r) : Calls Go.Proofs.Try.prog 25 #[.pointer (some ⟨bp0, 0, none⟩), .int .i64 p1] w fun e w' => ∃ (ra1 : Option Addr) (rc1 : Nat) (m' : Mem), e = .returned (.int .i64 r.2) ∧ m.le m' ∧ St m' (.blk bp0 (.cells #[.slice ra1 (List.length r.1.1) rc1, .int .i64 r.1.2] 35 (0, 0)) :: own) w' ∧ RepS (cInt .i64) m' ra1 rc1 r.1.1 := by
  unfold testgatemake_Tape_Next at hr
  have hm := m.le_refl
  refine W_calls Go.Proofs.Try.func25 rfl Go.Proofs.Try.ntmps25 [(0, .pointer (some ⟨bp0, 0, none⟩)), (1, .int .i64 p1)] (by kernel_rfl) rfl ?_
  refine W_seq ?_
  refine W_region ?_
  refine WO_seg 1 [] (by kernel_rfl) (by kernel_rfl) ?_
  refine WO_end rfl ?_
  refine X_then ?_
  refine W_seq ?_
  refine W_region ?_
  refine WO_seg 3 [(8, .pointer (some ⟨bp0, 1, none⟩))] (by kernel_rfl) (by kernel_rfl) ?_
  refine WO_one rfl (One_load_own (d := 9) (t := 3) (x := (.tmp 8)) (.int .i64 p0.2) (by kernel_rfl) rfl (show evL _ _ = some (.pointer (some ⟨bp0, 1, none⟩)) from (by kernel_rfl)) st.head (by kernel_rfl) ?_)
  refine WO_seg 3 [(5, .int .i64 (Int.tmod (IntKind.wrap .i64 (p0.2 * 7)) 11))] (by kernel_rfl) (by kernel_rfl) ?_
  refine WO_end rfl ?_
  refine X_then ?_
  refine W_seq ?_
  refine W_seq ?_
  refine W_draw [(10, fun w' => Inv m w' ∧ Piece.holds m w' (.blk bp0 (.cells #[.slice a1 (List.length p0.1) c1, .int .i64 p0.2] 35 (0, 0))) ∧ True)] (by kernel_rfl) st ?_
  clear st
  intro w1 _ st
  have hmS := m.le_refl
  refine ⟨⟨.inr ⟨Inv.anti st.inv hmS, Piece.holds_anti st.head hmS, trivial⟩, trivial⟩, ?_⟩
  refine WA_pure 0 12 (.pointer (some ⟨bp0, 0, none⟩)) (by kernel_rfl) rfl (by kernel_rfl) (.head _) (QP_then (QP_then QP_body)) ?_
  refine WA_pure 1 13 (.pointer (some ⟨bp0, 0, none⟩)) (by kernel_rfl) rfl (by kernel_rfl) (.head _) (QP_then (QP_then QP_body)) ?_
  refine WA_pure 2 14 (.pointer (some ⟨bp0, 1, none⟩)) (by kernel_rfl) rfl (by kernel_rfl) (.head _) (QP_then (QP_then QP_body)) ?_
  refine WA_load_own (t := 3) (x := (.tmp 14)) 3 15 (.int .i64 p0.2) (by kernel_rfl) rfl (by kernel_rfl) (.head _) (QP_then (QP_then QP_body)) (fun _ h => h.2.1) (show evL _ _ = some (.pointer (some ⟨bp0, 1, none⟩)) from (by kernel_rfl)) (by kernel_rfl) ?_
  refine WA_pure 4 16 (.pointer (some ⟨bp0, 0, none⟩)) (by kernel_rfl) rfl (by kernel_rfl) (.head _) (QP_then (QP_then QP_body)) ?_
  refine WA_pure 5 17 (.pointer (some ⟨bp0, 0, none⟩)) (by kernel_rfl) rfl (by kernel_rfl) (.head _) (QP_then (QP_then QP_body)) ?_
  refine WA_pure 6 18 (.pointer (some ⟨bp0, 0, none⟩)) (by kernel_rfl) rfl (by kernel_rfl) (.head _) (QP_then (QP_then QP_body)) ?_
  refine WA_load_own (t := 32) (x := (.tmp 18)) 7 19 (.slice a1 (List.length p0.1) c1) (by kernel_rfl) rfl (by kernel_rfl) (.head _) (QP_then (QP_then QP_body)) (fun _ h => h.2.1) (show evL _ _ = some (.pointer (some ⟨bp0, 0, none⟩)) from (by kernel_rfl)) (by kernel_rfl) ?_
  refine WA_pure 8 20 (.int .i64 (List.length p0.1 : Int)) (by kernel_rfl) rfl (by kernel_rfl) (.head _) (QP_then (QP_then QP_body)) ?_
  refine WA_pure 9 21 (.bool (decide (p0.2 < (List.length p0.1 : Int)))) (by kernel_rfl) rfl (by kernel_rfl) (.head _) (QP_then (QP_then QP_body)) ?_
  refine WA_done (by kernel_rfl) ?_
  refine X_then ?_
  replace hr := bindS hr
  obtain ⟨o1, hr, hrKu1⟩ := hr
  refine W_cut .normal (fun L' w' => ∃ (m1 : Mem), L' = [(0, .pointer (some ⟨bp0, 0, none⟩)), (1, .int .i64 p1), (5, .int .i64 o1)] ∧ m.le m1 ∧ St m1 (.blk bp0 (.cells #[.slice a1 (List.length p0.1) c1, .int .i64 p0.2] 35 (0, 0)) :: own) w' ∧ RepS (cInt .i64) m1 a1 c1 p0.1) ?_ ?_
  · clear hr st
    have hr := hrKu1
    clear hrKu1
    rintro _ w2 ⟨m1, rfl, hm, st, r1⟩
    refine X_then ?_
    refine W_seq ?_
    refine W_region ?_
    refine WO_seg 3 [(32, .pointer (some ⟨bp0, 0, none⟩)), (34, .pointer (some ⟨bp0, 1, none⟩))] (by kernel_rfl) (by kernel_rfl) ?_
    refine WO_one rfl (One_load_own (d := 35) (t := 3) (x := (.tmp 34)) (.int .i64 p0.2) (by kernel_rfl) rfl (show evL _ _ = some (.pointer (some ⟨bp0, 1, none⟩)) from (by kernel_rfl)) st.head (by kernel_rfl) ?_)
    refine WO_seg 3 [(36, .int .i64 (IntKind.wrap .i64 (p0.2 + 1))), (38, .pointer (some ⟨bp0, 1, none⟩))] (by kernel_rfl) (by kernel_rfl) ?_
    refine WO_one rfl (One_store (t := 3) (x := (.tmp 38)) (y := (.tmp 36)) (v := .int .i64 (IntKind.wrap .i64 (p0.2 + 1))) (c' := #[.slice a1 (List.length p0.1) c1, .int .i64 (IntKind.wrap .i64 (p0.2 + 1))]) (by kernel_rfl) (show evL _ _ = some (.pointer (some ⟨bp0, 1, none⟩)) from (by kernel_rfl)) (show evL _ _ = some (.int .i64 (IntKind.wrap .i64 (p0.2 + 1))) from (by kernel_rfl)) st (by kernel_rfl) (by kernel_rfl) ?_)
    clear st
    intro w4 st
    refine WO_end rfl ?_
    refine X_then ?_
    refine W_seq ?_
    refine W_region ?_
    refine WO_seg 2 [(39, .int .i64 o1), (40, .int .i64 p1)] (by kernel_rfl) (by kernel_rfl) ?_
    replace hr := bindS hr
    obtain ⟨y1, hx2, hr⟩ := hr
    refine WO_one rfl (One_fn 41 42 #[.int .i64 o1, .int .i64 p1] (by kernel_rfl) rfl ?_)
    refine (testgatemake_Fold_ok st hx2).mono ?_
    clear st
    rintro _ w5 ⟨m2, rfl, hle1, st⟩
    refine ⟨_, rfl, ?_⟩
    have hm := Mem.le_trans hm hle1
    have r1 := r1.mono hle1
    refine WO_seg 1 [(4, .int .i64 y1)] (by kernel_rfl) (by kernel_rfl) ?_
    refine WO_end rfl ?_
    refine X_then ?_
    refine W_ret ?_
    obtain rfl := Option.some.inj hr
    refine X_ret [.tmp 4] [.int .i64 y1] rfl (ResAll.cons (ResAt.tmp (by kernel_rfl)) ResAll.nil) ?_
    exact ⟨a1, c1, m2, rfl, hm, st, r1⟩
  · intro Ku1
    clear hrKu1
    refine W_cond (decide (p0.2 < (List.length p0.1 : Int))) (by kernel_rfl) ?_ ?_
    · intro hc
      rw [if_pos hc] at hr
      refine W_draw [(11, fun w' => Inv m w' ∧ Piece.holds m w' (.blk bp0 (.cells #[.slice a1 (List.length p0.1) c1, .int .i64 p0.2] 35 (0, 0))) ∧ True)] (by kernel_rfl) st ?_
      clear st
      intro w3 _ st
      have hmS := m.le_refl
      refine ⟨⟨.inr ⟨Inv.anti st.inv hmS, Piece.holds_anti st.head hmS, trivial⟩, trivial⟩, ?_⟩
      refine WA_pure 0 22 (.pointer (some ⟨bp0, 0, none⟩)) (by kernel_rfl) rfl (by kernel_rfl) (.head _) (QP_then QP_body) ?_
      refine WA_pure 1 23 (.pointer (some ⟨bp0, 0, none⟩)) (by kernel_rfl) rfl (by kernel_rfl) (.head _) (QP_then QP_body) ?_
      refine WA_pure 2 24 (.pointer (some ⟨bp0, 0, none⟩)) (by kernel_rfl) rfl (by kernel_rfl) (.head _) (QP_then QP_body) ?_
      refine WA_load_own (t := 32) (x := (.tmp 24)) 3 25 (.slice a1 (List.length p0.1) c1) (by kernel_rfl) rfl (by kernel_rfl) (.head _) (QP_then QP_body) (fun _ h => h.2.1) (show evL _ _ = some (.pointer (some ⟨bp0, 0, none⟩)) from (by kernel_rfl)) (by kernel_rfl) ?_
      refine WA_pure 4 26 (.pointer (some ⟨bp0, 0, none⟩)) (by kernel_rfl) rfl (by kernel_rfl) (.head _) (QP_then QP_body) ?_
      refine WA_pure 5 27 (.pointer (some ⟨bp0, 0, none⟩)) (by kernel_rfl) rfl (by kernel_rfl) (.head _) (QP_then QP_body) ?_
      refine WA_pure 6 28 (.pointer (some ⟨bp0, 1, none⟩)) (by kernel_rfl) rfl (by kernel_rfl) (.head _) (QP_then QP_body) ?_
      refine WA_load_own (t := 3) (x := (.tmp 28)) 7 29 (.int .i64 p0.2) (by kernel_rfl) rfl (by kernel_rfl) (.head _) (QP_then QP_body) (fun _ h => h.2.1) (show evL _ _ = some (.pointer (some ⟨bp0, 1, none⟩)) from (by kernel_rfl)) (by kernel_rfl) ?_
      replace hr := bindS hr
      obtain ⟨x1, hx1, hr⟩ := hr
      refine WA_index (t := 32) (e := 3) (x := (.tmp 25)) (y := (.tmp 29)) 8 30 (cInt .i64) (by kernel_rfl) rfl (by kernel_rfl) (.head _) (QP_then QP_body) (show evL _ _ = some (.slice a1 (List.length p0.1) c1) from (by kernel_rfl)) (show evL _ _ = some (.int .i64 p0.2) from (by kernel_rfl)) (by kernel_rfl) r1 hx1 ?_
      rintro b1 f1 cs1 rfl hq1
      refine WA_load_row (t := 3) (x := (.tmp 30)) 9 31 (.int .i64 x1) (by kernel_rfl) rfl (by kernel_rfl) (.head _) (QP_then QP_body) (fun _ h => h.1) (show evL _ _ = some (.pointer (some ⟨b1, f1, none⟩)) from (by kernel_rfl)) hq1 (by kernel_rfl) ?_
      refine WA_pure 10 5 (.int .i64 x1) (by kernel_rfl) rfl (by kernel_rfl) (.head _) (QP_then QP_body) ?_
      refine WA_done (by kernel_rfl) ?_
      obtain rfl := Option.some.inj hr
      exact X_env _ (by kernel_rfl) (Ku1 _ _ ⟨m, rfl, hm, st, r1⟩)
    · intro hc
      rw [if_neg (not_true hc)] at hr
      refine W_skip ?_
      obtain rfl := Option.some.inj hr
      exact X_env _ (by kernel_rfl) (Ku1 _ _ ⟨m, rfl, hm, st, r1⟩)

def testgatemake_Tape_Text_L1 (N : Nat) (p1 : Int) (p2 : ByteArray) (s1 : List (UInt8) × Int × List (Int) × Int) : Option ((List (UInt8) × Int × List (Int) × Int) ⊕ ((List (UInt8) × List (Int) × Int))) :=
  if (decide (s1.2.1 < p1)) = true then ((testgatemake_Tape_Next N (s1.2.2.1, s1.2.2.2) (ByteArray.size p2 : Int)).bind fun y1 => (idxB p2 y1.2).bind fun x1 => (appendS 1 s1.1 ([x1])).bind fun l1 => some (.inl (l1, IntKind.wrap .i64 (s1.2.1 + 1), y1.1.1, y1.1.2))) else (some (.inr (s1.1, s1.2.2.1, s1.2.2.2)))

def testgatemake_Tape_Text (N : Nat) (p0 : List Int × Int) (p1 : Int) (p2 : ByteArray) : Option ((List Int × Int) × ByteArray) :=
  (loopM (testgatemake_Tape_Text_L1 N p1 p2) N (([] : List (UInt8)), 0, p0.1, p0.2)).bind fun o1 => some ((o1.2.1, o1.2.2), strOf o1.1)

set_option maxHeartbeats 4000000 in
set_option maxRecDepth 100000 in
theorem testgatemake_Tape_Text_ok {N : Nat} {m : Mem} {own : List Piece} {w : World} {p0 : List Int × Int} {p1 : Int} {p2 : ByteArray} {bp0 : Nat} {a1 : Option Addr} {c1 : Nat} {r : (List Int × Int) × ByteArray} (st : St m (.blk bp0 (.cells #[.slice a1 (List.length p0.1) c1, .int .i64 p0.2] 35 (0, 0)) :: own) w) (r1 : RepS (cInt .i64) m a1 c1 p0.1) (hr : testgatemake_Tape_Text N p0 p1 p2 = some r) : Calls Go.Proofs.Try.prog 55 #[.pointer (some ⟨bp0, 0, none⟩), .int .i64 p1, .string p2] w fun e w' => ∃ (ra1 : Option Addr) (rc1 : Nat) (m' : Mem), e = .returned (.string r.2) ∧ m.le m' ∧ St m' (.blk bp0 (.cells #[.slice ra1 (List.length r.1.1) rc1, .int .i64 r.1.2] 35 (0, 0)) :: own) w' ∧ RepS (cInt .i64) m' ra1 rc1 r.1.1 := by
  unfold testgatemake_Tape_Text at hr
  have hm := m.le_refl
  refine W_calls Go.Proofs.Try.func55 rfl Go.Proofs.Try.ntmps55 [(0, .pointer (some ⟨bp0, 0, none⟩)), (1, .int .i64 p1), (2, .string p2)] (by kernel_rfl) rfl ?_
  refine W_seq ?_
  refine W_region ?_
  refine WO_seg 1 [] (by kernel_rfl) (by kernel_rfl) ?_
  refine WO_end rfl ?_
  refine X_then ?_
  refine W_seq ?_
  refine W_region ?_
  refine WO_seg 1 [(7, .slice none (List.length ([] : List (UInt8))) 0)] (by kernel_rfl) (by kernel_rfl) ?_
  refine WO_end rfl ?_
  refine X_then ?_
  refine W_seq ?_
  refine W_seq ?_
  refine W_region ?_
  refine WO_seg 1 [(8, .int .i64 0)] (by kernel_rfl) (by kernel_rfl) ?_
  refine WO_end rfl ?_
  refine X_then ?_
  refine W_block ?_
  replace hr := bindS hr
  obtain ⟨out1, hr, hrKu1⟩ := hr
  refine W_cut (.exit 0) (fun L' w' => ∃ (o1 : List (UInt8) × List (Int) × Int) (a2 : Option Addr) (c3 : Nat) (a3 : Option Addr) (c4 : Nat) (m1 : Mem), o1 = out1 ∧ L' = [(7, .slice a2 (List.length o1.1) c3)] ∧ m.le m1 ∧ St m1 (.blk bp0 (.cells #[.slice a3 (List.length o1.2.1) c4, .int .i64 o1.2.2] 35 (0, 0)) :: .room a2 (List.length o1.1) c3 5 1 :: own) w' ∧ RepS cU8 m1 a2 c3 o1.1 ∧ RepS (cInt .i64) m1 a3 c4 o1.2.1) ?_ ?_
  · clear hr st
    rintro _ w1 ⟨o1, a2, c3, a3, c4, m1, rfl, rfl, hm, st, r2, r3⟩
    have hr := hrKu1
    clear hrKu1
    refine X_block_eq ?_
    refine X_then ?_
    refine W_seq ?_
    refine W_region ?_
    refine WO_seg 1 [(23, .slice a2 (List.length o1.1) c3)] (by kernel_rfl) (by kernel_rfl) ?_
    refine WO_one rfl (One_bytesStr (d := 24) (t1 := 50) (t2 := 9) (e := 5) (x := (.tmp 23)) (by kernel_rfl) rfl (show evL _ _ = some (.slice a2 (List.length o1.1) c3) from (by kernel_rfl)) (by kernel_rfl) (by kernel_rfl) st r2 ?_)
    refine WO_seg 1 [(6, .string (strOf o1.1))] (by kernel_rfl) (by kernel_rfl) ?_
    refine WO_end rfl ?_
    have st := st.front1
    have st := st.tail
    refine X_then ?_
    refine W_ret ?_
    obtain rfl := Option.some.inj hr
    refine X_ret [.tmp 6] [.string (strOf o1.1)] rfl (ResAll.cons (ResAt.tmp (by kernel_rfl)) ResAll.nil) ?_
    exact ⟨a3, c4, m1, rfl, hm, st, r3⟩
  intro K0_u1
  clear hrKu1
  have st := st.nilroom 5 1
  have st := st.front1
  refine W_env _ (by kernel_rfl) (W_loop (fun k1 L' w' => ∃ (s1 : List (UInt8) × Int × List (Int) × Int) (a4 : Option Addr) (c5 : Nat) (a5 : Option Addr) (c6 : Nat) (m2 : Mem), loopM (testgatemake_Tape_Text_L1 N p1 p2) k1 s1 = some out1 ∧ L' = [(0, .pointer (some ⟨bp0, 0, none⟩)), (1, .int .i64 p1), (2, .string p2), (7, .slice a4 (List.length s1.1) c5), (8, .int .i64 s1.2.1)] ∧ m.le m2 ∧ St m2 (.blk bp0 (.cells #[.slice a5 (List.length s1.2.2.1) c6, .int .i64 s1.2.2.2] 35 (0, 0)) :: .room a4 (List.length s1.1) c5 5 1 :: own) w' ∧ RepS cU8 m2 a4 c5 s1.1 ∧ RepS (cInt .i64) m2 a5 c6 s1.2.2.1) N ⟨(([] : List (UInt8)), 0, p0.1, p0.2), none, 0, a1, c1, m, hr, rfl, hm, st, (RepS.nil _ _), r1⟩ ?_)
  clear st hr
  rintro k1 _ w2 ⟨s1, a4, c5, a5, c6, m2, hL, rfl, hm, st, r4, r5⟩
  rcases k1 with _ | k1
  · exact loopM_zero hL
  · obtain ⟨qu1, hr, hSu1, hBu1⟩ := loopM_succ hL
    clear hL
    unfold testgatemake_Tape_Text_L1 at hr
    refine W_seq ?_
    refine W_seq ?_
    refine W_region ?_
    refine WO_seg 3 [(11, .bool (decide (s1.2.1 < p1)))] (by kernel_rfl) (by kernel_rfl) ?_
    refine WO_end rfl ?_
    refine X_then ?_
    refine W_cond (decide (s1.2.1 < p1)) (by kernel_rfl) ?_ ?_
    · intro hc
      rw [if_pos hc] at hr
      refine W_skip ?_
      refine X_then ?_
      refine W_seq ?_
      refine W_block ?_
      refine W_region ?_
      refine WO_seg 5 [(14, .slice a4 (List.length s1.1) c5), (15, .string p2), (16, .pointer (some ⟨bp0, 0, none⟩)), (18, .int .i64 (ByteArray.size p2 : Int))] (by kernel_rfl) (by kernel_rfl) ?_
      replace hr := bindS hr
      obtain ⟨y1, hx1, hr⟩ := hr
      refine WO_one rfl (One_fn 19 25 #[.pointer (some ⟨bp0, 0, none⟩), .int .i64 (ByteArray.size p2 : Int)] (by kernel_rfl) rfl ?_)
      refine (testgatemake_Tape_Next_ok st r5 hx1).mono ?_
      clear st
      rintro _ w3 ⟨a6, c7, m3, rfl, hle1, st, r6⟩
      refine ⟨_, rfl, ?_⟩
      have hm := Mem.le_trans hm hle1
      have r4 := r4.mono hle1
      have r5 := r5.mono hle1
      replace hr := bindS hr
      obtain ⟨x1, hx2, hr⟩ := hr
      refine WO_one rfl (One_strIndex (d := 20) (t := 9) (x := (.tmp 15)) (y := (.tmp 19)) (by kernel_rfl) rfl (show evL _ _ = some (.string p2) from (by kernel_rfl)) (show evL _ _ = some (.int .i64 y1.2) from (by kernel_rfl)) (by kernel_rfl) hx2 ?_)
      refine WO_one rfl (One_buildSlice (d := 21) (t := 50) (e := 5) (len := 1) (parts := #[(0, (.tmp 20))]) cU8 (xs := [x1]) [.int .u8 (x1.toNat : Int)] (by kernel_rfl) rfl (fun _ => buildCells_run (by kernel_rfl) _) rfl rfl st ⟨[.int .u8 (x1.toNat : Int)], _, rfl, rfl, rfl⟩ ?_)
      clear st
      intro b1 m4 w4 hle2 st r7
      have hm := Mem.le_trans hm hle2
      have r4 := r4.mono hle2
      have r6 := r6.mono hle2
      have st := st.front2
      replace hr := bindS hr
      obtain ⟨l1, hx3, hr⟩ := hr
      refine WO_one rfl (One_append (d := 22) (t := 50) (u := 50) (e := 5) (by_ := 1) (x := (.tmp 14)) (y := (.tmp 21)) cU8 (by kernel_rfl) rfl (show evL _ _ = some (.slice a4 (List.length s1.1) c5) from (by kernel_rfl)) (show evL _ _ = some (.slice (some ⟨b1, 0, none⟩) (List.length ([x1])) 1) from (by kernel_rfl)) st (by kernel_rfl) (.inl (by kernel_rfl)) r4 r7.src hx3 ?_)
      clear st
      intro a7 c8 m5 w5 hle3 st r8
      have hm := Mem.le_trans hm hle3
      have r4 := r4.mono hle3
      have r7 := r7.mono hle3
      have r6 := r6.mono hle3
      refine WO_seg 1 [(7, .slice a7 (List.length l1) c8)] (by kernel_rfl) (by kernel_rfl) ?_
      refine WO_end rfl ?_
      have st := st.front1
      have st := st.tail
      refine X_block ?_
      refine X_then ?_
      refine W_region ?_
      refine WO_seg 3 [(8, .int .i64 (IntKind.wrap .i64 (s1.2.1 + 1)))] (by kernel_rfl) (by kernel_rfl) ?_
      refine WO_end rfl ?_
      obtain rfl := Option.some.inj hr
      have hL := hSu1 _ rfl
      have st := st.front1
      exact X_env _ (by kernel_rfl) (X_round k1 (Nat.lt_succ_self _) ⟨(l1, IntKind.wrap .i64 (s1.2.1 + 1), y1.1.1, y1.1.2), a7, c8, a6, c7, m5, hL, rfl, hm, st, r8, r6⟩)
    · intro hc
      rw [if_neg (not_true hc)] at hr
      refine W_exit ?_
      refine X_then_exit ?_
      obtain rfl := Option.some.inj hr
      have ho := hBu1 _ rfl
      have st := st.front1
      have st := st.front1
      refine X_then_exit ?_
      exact X_env _ (by kernel_rfl) (K0_u1 _ _ ⟨(s1.1, s1.2.2.1, s1.2.2.2), a4, c5, a5, c6, m2, ho, rfl, hm, st, r4, r5⟩)

def testgatemake_Has_L1 (N : Nat) (p0 : List ByteArray) (p1 : ByteArray) (s1 : Int) : Option ((Int) ⊕ ((Unit) ⊕ (Bool))) :=
  if (decide (s1 < (List.length p0 : Int))) = true then ((idx p0 s1).bind fun x1 => if (x1.toList == p1.toList) = true then (some (.inr (.inr (true)))) else (some (.inl (IntKind.wrap .i64 (s1 + 1))))) else (some (.inr (.inl ())))

def testgatemake_Has (N : Nat) (p0 : List ByteArray) (p1 : ByteArray) : Option (Bool) :=
  (loopM (testgatemake_Has_L1 N p0 p1) N 0).bind fun out1 => (match out1 with | .inl o1 => some false | .inr (z) => some z)

set_option maxHeartbeats 4000000 in
set_option maxRecDepth 100000 in
theorem testgatemake_Has_ok {N : Nat} {m : Mem} {own : List Piece} {w : World} {p0 : List ByteArray} {p1 : ByteArray} {a1 : Option Addr} {c1 : Nat} {r : Bool} (st : St m (own) w) (r1 : RepS cStr m a1 c1 p0) (hr : testgatemake_Has N p0 p1 = some r) : Calls Go.Proofs.Try.prog 63 #[.slice a1 (List.length p0) c1, .string p1] w fun e w' => ∃ (m' : Mem), e = .returned (.bool r) ∧ m.le m' ∧ St m' (own) w' := by
  unfold testgatemake_Has at hr
  have hm := m.le_refl
  refine W_calls Go.Proofs.Try.func63 rfl Go.Proofs.Try.ntmps63 [(0, .slice a1 (List.length p0) c1), (1, .string p1)] (by kernel_rfl) rfl ?_
  refine W_seq ?_
  refine W_region ?_
  refine WO_seg 1 [] (by kernel_rfl) (by kernel_rfl) ?_
  refine WO_end rfl ?_
  refine X_then ?_
  refine W_seq ?_
  refine W_seq ?_
  refine W_region ?_
  refine WO_seg 1 [(5, .int .i64 0)] (by kernel_rfl) (by kernel_rfl) ?_
  refine WO_end rfl ?_
  refine X_then ?_
  refine W_block ?_
  replace hr := bindS hr
  obtain ⟨out1, hr, hrKu1⟩ := hr
  refine W_cut (.exit 0) (fun L' w' => ∃ (o1 : Unit) (m1 : Mem), (.inl o1) = out1 ∧ L' = [] ∧ m.le m1 ∧ St m1 (own) w') ?_ ?_
  · clear hr st
    rintro _ w1 ⟨o1, m1, rfl, rfl, hm, st⟩
    have hr := hrKu1
    clear hrKu1
    dsimp only at hr
    refine X_block_eq ?_
    refine X_then ?_
    refine W_seq ?_
    refine W_region ?_
    refine WO_seg 1 [(4, .bool false)] (by kernel_rfl) (by kernel_rfl) ?_
    refine WO_end rfl ?_
    refine X_then ?_
    refine W_ret ?_
    obtain rfl := Option.some.inj hr
    refine X_ret [.tmp 4] [.bool false] rfl (ResAll.cons (ResAt.tmp (by kernel_rfl)) ResAll.nil) ?_
    exact ⟨m1, rfl, hm, st⟩
  intro K0_u1
  refine W_env _ (by kernel_rfl) (W_loop (fun k1 L' w' => ∃ (s1 : Int) (m2 : Mem), loopM (testgatemake_Has_L1 N p0 p1) k1 s1 = some out1 ∧ L' = [(0, .slice a1 (List.length p0) c1), (1, .string p1), (5, .int .i64 s1)] ∧ m.le m2 ∧ St m2 (own) w' ∧ RepS cStr m2 a1 c1 p0) N ⟨0, m, hr, rfl, hm, st, r1⟩ ?_)
  clear st hr
  rintro k1 _ w2 ⟨s1, m2, hL, rfl, hm, st, r1⟩
  rcases k1 with _ | k1
  · exact loopM_zero hL
  · obtain ⟨qu1, hr, hSu1, hBu1⟩ := loopM_succ hL
    clear hL
    unfold testgatemake_Has_L1 at hr
    refine W_seq ?_
    refine W_seq ?_
    refine W_region ?_
    refine WO_seg 4 [(9, .bool (decide (s1 < (List.length p0 : Int))))] (by kernel_rfl) (by kernel_rfl) ?_
    refine WO_end rfl ?_
    refine X_then ?_
    refine W_cond (decide (s1 < (List.length p0 : Int))) (by kernel_rfl) ?_ ?_
    · intro hc
      rw [if_pos hc] at hr
      refine W_skip ?_
      refine X_then ?_
      refine W_seq ?_
      refine W_block ?_
      refine W_seq ?_
      refine W_region ?_
      refine WO_seg 2 [(12, .slice a1 (List.length p0) c1), (13, .int .i64 s1)] (by kernel_rfl) (by kernel_rfl) ?_
      replace hr := bindS hr
      obtain ⟨x1, hx1, hr⟩ := hr
      refine WO_one rfl (One_index (d := 14) (t := 22) (e := 9) (x := (.tmp 12)) (y := (.tmp 13)) cStr (by kernel_rfl) rfl (show evL _ _ = some (.slice a1 (List.length p0) c1) from (by kernel_rfl)) (show evL _ _ = some (.int .i64 s1) from (by kernel_rfl)) (by kernel_rfl) r1 hx1 ?_)
      rintro b1 f1 cs1 rfl hq1
      refine WO_one rfl (One_load_row (d := 15) (t := 9) (x := (.tmp 14)) (.string x1) (by kernel_rfl) rfl (show evL _ _ = some (.pointer (some ⟨b1, f1, none⟩)) from (by kernel_rfl)) st hq1 (by kernel_rfl) ?_)
      refine WO_seg 2 [(17, .bool (x1.toList == p1.toList))] (by kernel_rfl) (by kernel_rfl) ?_
      refine WO_end rfl ?_
      refine X_then ?_
      refine W_cond (x1.toList == p1.toList) (by kernel_rfl) ?_ ?_
      · intro hc
        rw [if_pos hc] at hr
        refine W_seq ?_
        refine W_region ?_
        refine WO_seg 1 [(4, .bool true)] (by kernel_rfl) (by kernel_rfl) ?_
        refine WO_end rfl ?_
        refine X_then ?_
        refine W_ret ?_
        refine X_block_ret ?_
        refine X_then_ret ?_
        obtain rfl := Option.some.inj hr
        have ho := hBu1 _ rfl
        subst ho
        have hr := hrKu1
        dsimp only at hr
        refine X_then_ret ?_
        refine X_block_ret ?_
        refine X_then_ret ?_
        obtain rfl := Option.some.inj hr
        refine X_ret [.tmp 4] [.bool true] rfl (ResAll.cons (ResAt.tmp (by kernel_rfl)) ResAll.nil) ?_
        exact ⟨m2, rfl, hm, st⟩
      · intro hc
        rw [if_neg (not_true hc)] at hr
        refine W_skip ?_
        refine X_block ?_
        refine X_then ?_
        refine W_region ?_
        refine WO_seg 3 [(5, .int .i64 (IntKind.wrap .i64 (s1 + 1)))] (by kernel_rfl) (by kernel_rfl) ?_
        refine WO_end rfl ?_
        obtain rfl := Option.some.inj hr
        have hL := hSu1 _ rfl
        exact X_env _ (by kernel_rfl) (X_round k1 (Nat.lt_succ_self _) ⟨IntKind.wrap .i64 (s1 + 1), m2, hL, rfl, hm, st, r1⟩)
    · intro hc
      rw [if_neg (not_true hc)] at hr
      refine W_exit ?_
      refine X_then_exit ?_
      obtain rfl := Option.some.inj hr
      have ho := hBu1 _ rfl
      refine X_then_exit ?_
      exact X_env _ (by kernel_rfl) (K0_u1 _ _ ⟨(), m2, ho, rfl, hm, st⟩)

def testgatemake_Tape_Chance (N : Nat) (p0 : List Int × Int) (p1 : Int) (p2 : Int) : Option ((List Int × Int) × Bool) :=
  (testgatemake_Tape_Next N (p0.1, p0.2) p2).bind fun y1 => some ((y1.1.1, y1.1.2), decide (y1.2 < p1))

set_option maxHeartbeats 4000000 in
set_option maxRecDepth 100000 in
theorem testgatemake_Tape_Chance_ok {N : Nat} {m : Mem} {own : List Piece} {w : World} {p0 : List Int × Int} {p1 : Int} {p2 : Int} {bp0 : Nat} {a1 : Option Addr} {c1 : Nat} {r : (List Int × Int) × Bool} (st : St m (.blk bp0 (.cells #[.slice a1 (List.length p0.1) c1, .int .i64 p0.2] 35 (0, 0)) :: own) w) (r1 : RepS (cInt .i64) m a1 c1 p0.1) (hr : testgatemake_Tape_Chance N p0 p1 p2 = some r) : Calls Go.Proofs.Try.prog 17 #[.pointer (some ⟨bp0, 0, none⟩), .int .i64 p1, .int .i64 p2] w fun e w' => ∃ (ra1 : Option Addr) (rc1 : Nat) (m' : Mem), e = .returned (.bool r.2) ∧ m.le m' ∧ St m' (.blk bp0 (.cells #[.slice ra1 (List.length r.1.1) rc1, .int .i64 r.1.2] 35 (0, 0)) :: own) w' ∧ RepS (cInt .i64) m' ra1 rc1 r.1.1 := by
  unfold testgatemake_Tape_Chance at hr
  have hm := m.le_refl
  refine W_calls Go.Proofs.Try.func17 rfl Go.Proofs.Try.ntmps17 [(0, .pointer (some ⟨bp0, 0, none⟩)), (1, .int .i64 p1), (2, .int .i64 p2)] (by kernel_rfl) rfl ?_
  refine W_seq ?_
  refine W_region ?_
  refine WO_seg 1 [] (by kernel_rfl) (by kernel_rfl) ?_
  refine WO_end rfl ?_
  refine X_then ?_
  refine W_seq ?_
  refine W_region ?_
  refine WO_seg 2 [(7, .pointer (some ⟨bp0, 0, none⟩)), (8, .int .i64 p2)] (by kernel_rfl) (by kernel_rfl) ?_
  replace hr := bindS hr
  obtain ⟨y1, hx1, hr⟩ := hr
  refine WO_one rfl (One_fn 9 25 #[.pointer (some ⟨bp0, 0, none⟩), .int .i64 p2] (by kernel_rfl) rfl ?_)
  refine (testgatemake_Tape_Next_ok st r1 hx1).mono ?_
  clear st
  rintro _ w1 ⟨a2, c3, m1, rfl, hle1, st, r2⟩
  refine ⟨_, rfl, ?_⟩
  have hm := Mem.le_trans hm hle1
  have r1 := r1.mono hle1
  refine WO_seg 3 [(6, .bool (decide (y1.2 < p1)))] (by kernel_rfl) (by kernel_rfl) ?_
  refine WO_end rfl ?_
  refine X_then ?_
  refine W_ret ?_
  obtain rfl := Option.some.inj hr
  refine X_ret [.tmp 6] [.bool (decide (y1.2 < p1))] rfl (ResAll.cons (ResAt.tmp (by kernel_rfl)) ResAll.nil) ?_
  exact ⟨a2, c3, m1, rfl, hm, st, r2⟩

def testgatelaw13_store_L1 (N : Nat) (s1 : Int × List (Int) × Int × List (ByteArray)) : Option ((Int × List (Int) × Int × List (ByteArray)) ⊕ ((List (Int) × Int × List (ByteArray)))) :=
  if (decide (s1.1 > 0)) = true then (((testgatemake_Tape_Next N (s1.2.1, s1.2.2.1) 3).bind fun y2 => (testgatemake_Tape_Text N (y2.1.1, y2.1.2) y2.2 (⟨#[97, 98, 61]⟩ : ByteArray)).bind fun y3 => ((testgatemake_Has N s1.2.2.2 y3.2).bind fun y4 => if (!y4) = true then (some (true, y3.1.1, y3.1.2)) else ((testgatemake_Tape_Chance N (y3.1.1, y3.1.2) 1 30).bind fun y5 => some (y5.2, y5.1.1, y5.1.2)) : Option (Bool × List (Int) × Int)).bind fun o3 => if o3.1 = true then ((appendS 16 s1.2.2.2 ([y3.2])).bind fun l1 => some (o3.2.1, o3.2.2, l1)) else (some (o3.2.1, o3.2.2, s1.2.2.2)) : Option (List (Int) × Int × List (ByteArray))).bind fun o2 => some (.inl (IntKind.wrap .i64 (s1.1 - 1), o2.1, o2.2.1, o2.2.2))) else (some (.inr (s1.2.1, s1.2.2.1, s1.2.2.2)))

def testgatelaw13_store (N : Nat) (p0 : List Int × Int) : Option ((List Int × Int) × List ByteArray) :=
  (testgatemake_Tape_Next N (p0.1, p0.2) 9).bind fun y1 => (loopM (testgatelaw13_store_L1 N) N (y1.2, y1.1.1, y1.1.2, ([] : List (ByteArray)))).bind fun o1 => some ((o1.1, o1.2.1), o1.2.2)

set_option maxHeartbeats 4000000 in
set_option maxRecDepth 100000 in
theorem testgatelaw13_store_ok {N : Nat} {m : Mem} {own : List Piece} {w : World} {p0 : List Int × Int} {bp0 : Nat} {a1 : Option Addr} {c1 : Nat} {r : (List Int × Int) × List ByteArray} (st : St m (.blk bp0 (.cells #[.slice a1 (List.length p0.1) c1, .int .i64 p0.2] 35 (0, 0)) :: own) w) (r1 : RepS (cInt .i64) m a1 c1 p0.1) (hr : testgatelaw13_store N p0 = some r) : Calls Go.Proofs.Try.prog 16 #[.pointer (some ⟨bp0, 0, none⟩)] w fun e w' => ∃ (ra1 : Option Addr) (rc1 : Nat) (ra2 : Option Addr) (rc2 : Nat) (m' : Mem), e = .returned (.agg #[.slice ra2 (List.length r.2) rc2]) ∧ m.le m' ∧ St m' (.room ra2 (List.length r.2) rc2 9 1 :: .blk bp0 (.cells #[.slice ra1 (List.length r.1.1) rc1, .int .i64 r.1.2] 35 (0, 0)) :: own) w' ∧ RepS (cInt .i64) m' ra1 rc1 r.1.1 ∧ RepS cStr m' ra2 rc2 r.2 := by
  unfold testgatelaw13_store at hr
  have hm := m.le_refl
  refine W_calls Go.Proofs.Try.func16 rfl Go.Proofs.Try.ntmps16 [(0, .pointer (some ⟨bp0, 0, none⟩))] (by kernel_rfl) rfl ?_
  refine W_seq ?_
  refine W_region ?_
  refine WO_one rfl (One_alloc (d := 2) (e := 24) (.agg #[.slice none 0 0]) (by kernel_rfl) rfl (by kernel_rfl) st ?_)
  clear st
  intro b1 w1 st
  refine WO_end rfl ?_
  refine X_then ?_
  refine W_seq ?_
  refine W_region ?_
  refine WO_one rfl (One_alloc (d := 3) (e := 24) (.agg #[.slice none 0 0]) (by kernel_rfl) rfl (by kernel_rfl) st ?_)
  clear st
  intro b2 w2 st
  refine WO_end rfl ?_
  refine X_then ?_
  refine W_seq ?_
  refine W_seq ?_
  refine W_region ?_
  refine WO_seg 1 [(6, .pointer (some ⟨bp0, 0, none⟩))] (by kernel_rfl) (by kernel_rfl) ?_
  have st := st.front2
  replace hr := bindS hr
  obtain ⟨y1, hx1, hr⟩ := hr
  refine WO_one rfl (One_fn 7 25 #[.pointer (some ⟨bp0, 0, none⟩), .int .i64 9] (by kernel_rfl) rfl ?_)
  refine (testgatemake_Tape_Next_ok st r1 hx1).mono ?_
  clear st
  rintro _ w3 ⟨a2, c3, m1, rfl, hle1, st, r2⟩
  refine ⟨_, rfl, ?_⟩
  have hm := Mem.le_trans hm hle1
  have r1 := r1.mono hle1
  refine WO_seg 1 [(4, .int .i64 y1.2)] (by kernel_rfl) (by kernel_rfl) ?_
  refine WO_end rfl ?_
  refine X_then ?_
  refine W_block ?_
  replace hr := bindS hr
  obtain ⟨out1, hr, hrKu1⟩ := hr
  refine W_cut (.exit 0) (fun L' w' => ∃ (o1 : List (Int) × Int × List (ByteArray)) (a3 : Option Addr) (c4 : Nat) (a4 : Option Addr) (c5 : Nat) (m2 : Mem), o1 = out1 ∧ L' = [(2, .pointer (some ⟨b1, 0, none⟩)), (3, .pointer (some ⟨b2, 0, none⟩))] ∧ m.le m2 ∧ St m2 (.blk bp0 (.cells #[.slice a3 (List.length o1.1) c4, .int .i64 o1.2.1] 35 (0, 0)) :: .blk b2 (.cells #[.slice a4 (List.length o1.2.2) c5] 24 (0, 0)) :: .blk b1 (.cells #[.slice none (List.length ([] : List (ByteArray))) 0] 24 (0, 0)) :: .room a4 (List.length o1.2.2) c5 9 1 :: own) w' ∧ RepS (cInt .i64) m2 a3 c4 o1.1 ∧ RepS cStr m2 a4 c5 o1.2.2) ?_ ?_
  · clear hr st
    rintro _ w4 ⟨o1, a3, c4, a4, c5, m2, rfl, rfl, hm, st, r3, r4⟩
    have hr := hrKu1
    clear hrKu1
    refine X_block_eq ?_
    refine X_then ?_
    refine W_seq ?_
    refine W_region ?_
    refine WO_one rfl (One_load_own (d := 31) (t := 24) (x := (.tmp 3)) (.agg #[.slice a4 (List.length o1.2.2) c5]) (by kernel_rfl) rfl (show evL _ _ = some (.pointer (some ⟨b2, 0, none⟩)) from (by kernel_rfl)) st.tail.head (by kernel_rfl) ?_)
    have st := st.front2
    refine WO_one rfl (One_store (t := 24) (x := (.tmp 2)) (y := (.tmp 31)) (v := .agg #[.slice a4 (List.length o1.2.2) c5]) (c' := #[.slice a4 (List.length o1.2.2) c5]) (by kernel_rfl) (show evL _ _ = some (.pointer (some ⟨b1, 0, none⟩)) from (by kernel_rfl)) (show evL _ _ = some (.agg #[.slice a4 (List.length o1.2.2) c5]) from (by kernel_rfl)) st (by kernel_rfl) (by kernel_rfl) ?_)
    clear st
    intro w15 st
    refine WO_end rfl ?_
    refine X_then ?_
    refine W_ret ?_
    obtain rfl := Option.some.inj hr
    refine X_ret [.cell 2 24] [.agg #[.slice a4 (List.length o1.2.2) c5]] rfl (ResAll.cons (ResAt.blk (v := .agg #[.slice a4 (List.length o1.2.2) c5]) (o := 0) (by kernel_rfl) st.head (by kernel_rfl)) ResAll.nil) ?_
    have st := st.tail
    have st := st.front1
    have st := st.tail
    have st := st.front1
    exact ⟨a3, c4, a4, c5, m2, rfl, hm, st, r3, r4⟩
  intro K0_u1
  clear hrKu1
  have st := st.nilroom 9 1
  have st := st.front3
  have st := st.front3
  have st := st.front3
  refine W_env _ (by kernel_rfl) (W_loop (fun k1 L' w' => ∃ (s1 : Int × List (Int) × Int × List (ByteArray)) (a5 : Option Addr) (c6 : Nat) (a6 : Option Addr) (c7 : Nat) (m3 : Mem), loopM (testgatelaw13_store_L1 N) k1 s1 = some out1 ∧ L' = [(0, .pointer (some ⟨bp0, 0, none⟩)), (2, .pointer (some ⟨b1, 0, none⟩)), (3, .pointer (some ⟨b2, 0, none⟩)), (4, .int .i64 s1.1)] ∧ m.le m3 ∧ St m3 (.blk bp0 (.cells #[.slice a5 (List.length s1.2.1) c6, .int .i64 s1.2.2.1] 35 (0, 0)) :: .blk b2 (.cells #[.slice a6 (List.length s1.2.2.2) c7] 24 (0, 0)) :: .blk b1 (.cells #[.slice none (List.length ([] : List (ByteArray))) 0] 24 (0, 0)) :: .room a6 (List.length s1.2.2.2) c7 9 1 :: own) w' ∧ RepS (cInt .i64) m3 a5 c6 s1.2.1 ∧ RepS cStr m3 a6 c7 s1.2.2.2) N ⟨(y1.2, y1.1.1, y1.1.2, ([] : List (ByteArray))), a2, c3, none, 0, m1, hr, rfl, hm, st, r2, (RepS.nil _ _)⟩ ?_)
  clear st hr
  rintro k1 _ w5 ⟨s1, a5, c6, a6, c7, m3, hL, rfl, hm, st, r5, r6⟩
  rcases k1 with _ | k1
  · exact loopM_zero hL
  · obtain ⟨qu1, hr, hSu1, hBu1⟩ := loopM_succ hL
    clear hL
    unfold testgatelaw13_store_L1 at hr
    refine W_seq ?_
    refine W_seq ?_
    refine W_region ?_
    refine WO_seg 2 [(9, .bool (decide (s1.1 > 0)))] (by kernel_rfl) (by kernel_rfl) ?_
    refine WO_end rfl ?_
    refine X_then ?_
    refine W_cond (decide (s1.1 > 0)) (by kernel_rfl) ?_ ?_
    · intro hc
      rw [if_pos hc] at hr
      refine W_skip ?_
      refine X_then ?_
      refine W_seq ?_
      replace hr := bindS hr
      obtain ⟨o2, hr, hrKu2⟩ := hr
      refine W_cut .normal (fun L' w' => ∃ (a7 : Option Addr) (c8 : Nat) (a8 : Option Addr) (c9 : Nat) (m4 : Mem), L' = [(0, .pointer (some ⟨bp0, 0, none⟩)), (2, .pointer (some ⟨b1, 0, none⟩)), (3, .pointer (some ⟨b2, 0, none⟩)), (4, .int .i64 s1.1)] ∧ m.le m4 ∧ St m4 (.blk bp0 (.cells #[.slice a7 (List.length o2.1) c8, .int .i64 o2.2.1] 35 (0, 0)) :: .blk b2 (.cells #[.slice a8 (List.length o2.2.2) c9] 24 (0, 0)) :: .blk b1 (.cells #[.slice none (List.length ([] : List (ByteArray))) 0] 24 (0, 0)) :: .room a8 (List.length o2.2.2) c9 9 1 :: own) w' ∧ RepS (cInt .i64) m4 a7 c8 o2.1 ∧ RepS cStr m4 a8 c9 o2.2.2) ?_ ?_
      · clear hr st
        have hr := hrKu2
        clear hrKu2
        rintro _ w6 ⟨a7, c8, a8, c9, m4, rfl, hm, st, r7, r8⟩
        refine X_then ?_
        refine W_region ?_
        refine WO_seg 3 [(4, .int .i64 (IntKind.wrap .i64 (s1.1 - 1)))] (by kernel_rfl) (by kernel_rfl) ?_
        refine WO_end rfl ?_
        obtain rfl := Option.some.inj hr
        have hL := hSu1 _ rfl
        have st := st.front3
        have st := st.front3
        have st := st.front3
        have st := st.front3
        exact X_env _ (by kernel_rfl) (X_round k1 (Nat.lt_succ_self _) ⟨(IntKind.wrap .i64 (s1.1 - 1), o2.1, o2.2.1, o2.2.2), a7, c8, a8, c9, m4, hL, rfl, hm, st, r7, r8⟩)
      · intro Ku2
        clear hrKu2
        refine W_block ?_
        refine W_seq ?_
        refine W_region ?_
        refine WO_seg 2 [(12, .pointer (some ⟨bp0, 0, none⟩)), (13, .pointer (some ⟨bp0, 0, none⟩))] (by kernel_rfl) (by kernel_rfl) ?_
        replace hr := bindS hr
        obtain ⟨y2, hx2, hr⟩ := hr
        refine WO_one rfl (One_fn 14 25 #[.pointer (some ⟨bp0, 0, none⟩), .int .i64 3] (by kernel_rfl) rfl ?_)
        refine (testgatemake_Tape_Next_ok st r5 hx2).mono ?_
        clear st
        rintro _ w7 ⟨a9, c10, m5, rfl, hle2, st, r9⟩
        refine ⟨_, rfl, ?_⟩
        have hm := Mem.le_trans hm hle2
        have r5 := r5.mono hle2
        have r6 := r6.mono hle2
        replace hr := bindS hr
        obtain ⟨y3, hx3, hr⟩ := hr
        refine WO_one rfl (One_fn 15 55 #[.pointer (some ⟨bp0, 0, none⟩), .int .i64 y2.2, .string (⟨#[97, 98, 61]⟩ : ByteArray)] (by kernel_rfl) rfl ?_)
        refine (testgatemake_Tape_Text_ok st r9 hx3).mono ?_
        clear st
        rintro _ w8 ⟨a10, c11, m6, rfl, hle3, st, r10⟩
        refine ⟨_, rfl, ?_⟩
        have hm := Mem.le_trans hm hle3
        have r9 := r9.mono hle3
        have r6 := r6.mono hle3
        refine WO_seg 1 [(5, .string y3.2)] (by kernel_rfl) (by kernel_rfl) ?_
        refine WO_end rfl ?_
        refine X_then ?_
        refine W_seq ?_
        refine W_region ?_
        replace hr := bindS hr
        obtain ⟨o3, hr, hrK⟩ := hr
        refine WO_cut (j := 9) (fun L' w' => ∃ (a11 : Option Addr) (c12 : Nat) (m7 : Mem), L' = [(0, .pointer (some ⟨bp0, 0, none⟩)), (2, .pointer (some ⟨b1, 0, none⟩)), (3, .pointer (some ⟨b2, 0, none⟩)), (4, .int .i64 s1.1), (5, .string y3.2), (24, .bool o3.1)] ∧ m.le m7 ∧ St m7 (.blk bp0 (.cells #[.slice a11 (List.length o3.2.1) c12, .int .i64 o3.2.2] 35 (0, 0)) :: .blk b2 (.cells #[.slice a6 (List.length s1.2.2.2) c7] 24 (0, 0)) :: .blk b1 (.cells #[.slice none (List.length ([] : List (ByteArray))) 0] 24 (0, 0)) :: .room a6 (List.length s1.2.2.2) c7 9 1 :: own) w' ∧ RepS (cInt .i64) m7 a11 c12 o3.2.1 ∧ RepS cStr m7 a6 c7 s1.2.2.2) ?_ ?_
        · clear hr st
          have hr := hrK
          clear hrK
          rintro _ w9 ⟨a11, c12, m7, rfl, hm, st, r11, r6⟩
          refine WO_end rfl ?_
          refine X_then ?_
          refine W_cond o3.1 (by kernel_rfl) ?_ ?_
          · intro hc
            rw [if_pos hc] at hr
            refine W_region ?_
            refine WO_seg 1 [(25, .pointer (some ⟨b2, 0, none⟩))] (by kernel_rfl) (by kernel_rfl) ?_
            refine WO_one rfl (One_load_own (d := 26) (t := 22) (x := (.tmp 25)) (.slice a6 (List.length s1.2.2.2) c7) (by kernel_rfl) rfl (show evL _ _ = some (.pointer (some ⟨b2, 0, none⟩)) from (by kernel_rfl)) st.tail.head (by kernel_rfl) ?_)
            refine WO_seg 1 [(27, .string y3.2)] (by kernel_rfl) (by kernel_rfl) ?_
            refine WO_one rfl (One_buildSlice (d := 28) (t := 22) (e := 9) (len := 1) (parts := #[(0, (.tmp 27))]) cStr (xs := [y3.2]) [.string y3.2] (by kernel_rfl) rfl (fun _ => buildCells_run (by kernel_rfl) _) rfl rfl st ⟨[.string y3.2], _, rfl, rfl, rfl⟩ ?_)
            clear st
            intro b3 m10 w12 hle6 st r13
            have hm := Mem.le_trans hm hle6
            have r6 := r6.mono hle6
            have r11 := r11.mono hle6
            have st := st.front4
            replace hr := bindS hr
            obtain ⟨l1, hx6, hr⟩ := hr
            refine WO_one rfl (One_append (d := 29) (t := 22) (u := 22) (e := 9) (by_ := 16) (x := (.tmp 26)) (y := (.tmp 28)) cStr (by kernel_rfl) rfl (show evL _ _ = some (.slice a6 (List.length s1.2.2.2) c7) from (by kernel_rfl)) (show evL _ _ = some (.slice (some ⟨b3, 0, none⟩) (List.length ([y3.2])) 1) from (by kernel_rfl)) st (by kernel_rfl) (.inl (by kernel_rfl)) r6 r13.src hx6 ?_)
            clear st
            intro a13 c14 m11 w13 hle7 st r14
            have hm := Mem.le_trans hm hle7
            have r6 := r6.mono hle7
            have r13 := r13.mono hle7
            have r11 := r11.mono hle7
            refine WO_seg 1 [(30, .pointer (some ⟨b2, 0, none⟩))] (by kernel_rfl) (by kernel_rfl) ?_
            have st := st.front3
            refine WO_one rfl (One_store (t := 22) (x := (.tmp 30)) (y := (.tmp 29)) (v := .slice a13 (List.length l1) c14) (c' := #[.slice a13 (List.length l1) c14]) (by kernel_rfl) (show evL _ _ = some (.pointer (some ⟨b2, 0, none⟩)) from (by kernel_rfl)) (show evL _ _ = some (.slice a13 (List.length l1) c14) from (by kernel_rfl)) st (by kernel_rfl) (by kernel_rfl) ?_)
            clear st
            intro w14 st
            refine WO_end rfl ?_
            have st := st.front2
            have st := st.tail
            refine X_block ?_
            obtain rfl := Option.some.inj hr
            have st := st.front1
            have st := st.front3
            have st := st.front2
            have st := st.front3
            exact X_env _ (by kernel_rfl) (Ku2 _ _ ⟨a11, c12, a13, c14, m11, rfl, hm, st, r11, r14⟩)
          · intro hc
            rw [if_neg (not_true hc)] at hr
            refine W_skip ?_
            refine X_block ?_
            obtain rfl := Option.some.inj hr
            have st := st.front3
            have st := st.front3
            have st := st.front3
            have st := st.front3
            exact X_env _ (by kernel_rfl) (Ku2 _ _ ⟨a11, c12, a6, c7, m7, rfl, hm, st, r11, r6⟩)
        · intro K
          clear hrK
          refine WO_seg 1 [(16, .pointer (some ⟨b2, 0, none⟩))] (by kernel_rfl) (by kernel_rfl) ?_
          refine WO_one rfl (One_load_own (d := 17) (t := 22) (x := (.tmp 16)) (.slice a6 (List.length s1.2.2.2) c7) (by kernel_rfl) rfl (show evL _ _ = some (.pointer (some ⟨b2, 0, none⟩)) from (by kernel_rfl)) st.tail.head (by kernel_rfl) ?_)
          refine WO_seg 1 [(18, .string y3.2)] (by kernel_rfl) (by kernel_rfl) ?_
          replace hr := bindS hr
          obtain ⟨y4, hx4, hr⟩ := hr
          refine WO_one rfl (One_fn 19 63 #[.slice a6 (List.length s1.2.2.2) c7, .string y3.2] (by kernel_rfl) rfl ?_)
          refine (testgatemake_Has_ok st r6 hx4).mono ?_
          clear st
          rintro _ w10 ⟨m8, rfl, hle4, st⟩
          refine ⟨_, rfl, ?_⟩
          have hm := Mem.le_trans hm hle4
          have r6 := r6.mono hle4
          have r10 := r10.mono hle4
          refine WO_seg 2 [(21, .bool (!y4))] (by kernel_rfl) (by kernel_rfl) ?_
          rcases bcases (!y4) with hc | hc
          · rw [if_pos hc] at hr
            refine WO_fact (t := 21) (b := true) (!y4) (by kernel_rfl) hc ?_
            refine WO_seg 3 [(24, .bool true)] (by kernel_rfl) (by kernel_rfl) ?_
            obtain rfl := Option.some.inj hr
            have st := st.front3
            have st := st.front3
            have st := st.front3
            have st := st.front3
            exact WO_env _ (by kernel_rfl) (K _ _ ⟨a10, c11, m8, rfl, hm, st, r10, r6⟩)
          · rw [if_neg (not_true hc)] at hr
            refine WO_fact (t := 21) (b := false) (!y4) (by kernel_rfl) hc ?_
            refine WO_seg 1 [(22, .pointer (some ⟨bp0, 0, none⟩))] (by kernel_rfl) (by kernel_rfl) ?_
            replace hr := bindS hr
            obtain ⟨y5, hx5, hr⟩ := hr
            refine WO_one rfl (One_fn 23 17 #[.pointer (some ⟨bp0, 0, none⟩), .int .i64 1, .int .i64 30] (by kernel_rfl) rfl ?_)
            refine (testgatemake_Tape_Chance_ok st r10 hx5).mono ?_
            clear st
            rintro _ w11 ⟨a12, c13, m9, rfl, hle5, st, r12⟩
            refine ⟨_, rfl, ?_⟩
            have hm := Mem.le_trans hm hle5
            have r6 := r6.mono hle5
            have r10 := r10.mono hle5
            refine WO_seg 1 [(24, .bool y5.2)] (by kernel_rfl) (by kernel_rfl) ?_
            obtain rfl := Option.some.inj hr
            have st := st.front3
            have st := st.front3
            have st := st.front3
            have st := st.front3
            exact WO_env _ (by kernel_rfl) (K _ _ ⟨a12, c13, m9, rfl, hm, st, r12, r6⟩)
    · intro hc
      rw [if_neg (not_true hc)] at hr
      refine W_exit ?_
      refine X_then_exit ?_
      obtain rfl := Option.some.inj hr
      have ho := hBu1 _ rfl
      have st := st.front3
      have st := st.front3
      have st := st.front3
      have st := st.front3
      refine X_then_exit ?_
      exact X_env _ (by kernel_rfl) (K0_u1 _ _ ⟨(s1.2.1, s1.2.2.1, s1.2.2.2), a5, c6, a6, c7, m3, ho, rfl, hm, st, r5, r6⟩)

def testgateref13_Check_L2 (N : Nat) (x1 : ByteArray) (l1 : List (ByteArray)) (s2 : Int) : Option ((Int) ⊕ ((Unit) ⊕ (Int))) :=
  if (decide (s2 < (List.length l1 : Int))) = true then ((idx l1 s2).bind fun x2 => if (x1.toList == x2.toList) = true then (some (.inr (.inr (10)))) else (some (.inl (IntKind.wrap .i64 (s2 + 1))))) else (some (.inr (.inl ())))

def testgateref13_Check_L1 (N : Nat) (p0 : List ByteArray) (s1 : Int) : Option ((Int) ⊕ ((Unit) ⊕ (Int))) :=
  if (decide (s1 < (List.length p0 : Int))) = true then ((idx p0 s1).bind fun x1 => (subS p0 0 s1).bind fun l1 => (loopM (testgateref13_Check_L2 N x1 l1) N 0).bind fun out2 => (match out2 with | .inl o2 => some (.inl (IntKind.wrap .i64 (s1 + 1))) | .inr (z) => some (.inr (.inr (z))))) else (some (.inr (.inl ())))

def testgateref13_Check (N : Nat) (p0 : List ByteArray) : Option (Int) :=
  if (decide ((List.length p0 : Int) > 4096)) = true then (some 2) else ((loopM (testgateref13_Check_L1 N p0) N 0).bind fun out1 => (match out1 with | .inl o1 => some 0 | .inr (z) => some z))

set_option maxHeartbeats 4000000 in
set_option maxRecDepth 100000 in
theorem testgateref13_Check_ok {N : Nat} {m : Mem} {own : List Piece} {w : World} {p0 : List ByteArray} {a1 : Option Addr} {c1 : Nat} {r : Int} (st : St m (own) w) (r1 : RepS cStr m a1 c1 p0) (hr : testgateref13_Check N p0 = some r) : Calls Go.Proofs.Try.prog 18 #[.agg #[.slice a1 (List.length p0) c1]] w fun e w' => ∃ (m' : Mem), e = .returned (.int .i64 r) ∧ m.le m' ∧ St m' (own) w' := by
  unfold testgateref13_Check at hr
  have hm := m.le_refl
  refine W_calls Go.Proofs.Try.func18 rfl Go.Proofs.Try.ntmps18 [(0, .agg #[.slice a1 (List.length p0) c1])] (by kernel_rfl) rfl ?_
  refine W_seq ?_
  refine W_region ?_
  refine WO_one rfl (One_box (d := 1) (e := 24) (x := (.tmp 0)) (.agg #[.slice a1 (List.length p0) c1]) (by kernel_rfl) rfl (by kernel_rfl) st ?_)
  clear st
  intro b1 m1 w1 hle1 st hb1
  have hm := Mem.le_trans hm hle1
  have r1 := r1.mono hle1
  refine WO_seg 1 [] (by kernel_rfl) (by kernel_rfl) ?_
  refine WO_end rfl ?_
  refine X_then ?_
  refine W_seq ?_
  refine W_seq ?_
  refine W_region ?_
  refine WO_seg 1 [(7, .pointer (some ⟨b1, 0, none⟩))] (by kernel_rfl) (by kernel_rfl) ?_
  refine WO_one rfl (One_load_row (d := 8) (t := 22) (x := (.tmp 7)) (.slice a1 (List.length p0) c1) (by kernel_rfl) rfl (show evL _ _ = some (.pointer (some ⟨b1, 0, none⟩)) from (by kernel_rfl)) st hb1 (by kernel_rfl) ?_)
  refine WO_seg 2 [(10, .bool (decide ((List.length p0 : Int) > 4096)))] (by kernel_rfl) (by kernel_rfl) ?_
  refine WO_end rfl ?_
  refine X_then ?_
  refine W_cond (decide ((List.length p0 : Int) > 4096)) (by kernel_rfl) ?_ ?_
  · intro hc
    rw [if_pos hc] at hr
    refine W_seq ?_
    refine W_region ?_
    refine WO_seg 1 [(2, .int .i64 2)] (by kernel_rfl) (by kernel_rfl) ?_
    refine WO_end rfl ?_
    refine X_then ?_
    refine W_ret ?_
    refine X_then_ret ?_
    obtain rfl := Option.some.inj hr
    refine X_ret [.tmp 2] [.int .i64 2] rfl (ResAll.cons (ResAt.tmp (by kernel_rfl)) ResAll.nil) ?_
    exact ⟨m1, rfl, hm, st⟩
  · intro hc
    rw [if_neg (not_true hc)] at hr
    refine W_skip ?_
    refine X_then ?_
    refine W_seq ?_
    refine W_seq ?_
    refine W_region ?_
    refine WO_seg 1 [(11, .pointer (some ⟨b1, 0, none⟩))] (by kernel_rfl) (by kernel_rfl) ?_
    refine WO_one rfl (One_load_row (d := 12) (t := 22) (x := (.tmp 11)) (.slice a1 (List.length p0) c1) (by kernel_rfl) rfl (show evL _ _ = some (.pointer (some ⟨b1, 0, none⟩)) from (by kernel_rfl)) st hb1 (by kernel_rfl) ?_)
    refine WO_seg 2 [(13, .int .i64 (List.length p0 : Int)), (14, .int .i64 0)] (by kernel_rfl) (by kernel_rfl) ?_
    refine WO_end rfl ?_
    refine X_then ?_
    refine W_block ?_
    replace hr := bindS hr
    obtain ⟨out1, hr, hrKu1⟩ := hr
    refine W_cut (.exit 0) (fun L' w' => ∃ (o1 : Unit) (m2 : Mem), (.inl o1) = out1 ∧ L' = [] ∧ m.le m2 ∧ St m2 (own) w') ?_ ?_
    · clear hr st
      rintro _ w2 ⟨o1, m2, rfl, rfl, hm, st⟩
      have hr := hrKu1
      clear hrKu1
      dsimp only at hr
      refine X_block_eq ?_
      refine X_then ?_
      refine W_seq ?_
      refine W_region ?_
      refine WO_seg 1 [(2, .int .i64 0)] (by kernel_rfl) (by kernel_rfl) ?_
      refine WO_end rfl ?_
      refine X_then ?_
      refine W_ret ?_
      obtain rfl := Option.some.inj hr
      refine X_ret [.tmp 2] [.int .i64 0] rfl (ResAll.cons (ResAt.tmp (by kernel_rfl)) ResAll.nil) ?_
      exact ⟨m2, rfl, hm, st⟩
    intro K0_u1
    refine W_env _ (by kernel_rfl) (W_loop (fun k1 L' w' => ∃ (s1 : Int) (m3 : Mem), loopM (testgateref13_Check_L1 N p0) k1 s1 = some out1 ∧ L' = [(1, .pointer (some ⟨b1, 0, none⟩)), (12, .slice a1 (List.length p0) c1), (13, .int .i64 (List.length p0 : Int)), (14, .int .i64 s1)] ∧ m.le m3 ∧ St m3 (own) w' ∧ MRow m3 b1 0 [.slice a1 (List.length p0) c1] ∧ RepS cStr m3 a1 c1 p0) N ⟨0, m1, hr, rfl, hm, st, hb1, r1⟩ ?_)
    clear st hr
    rintro k1 _ w3 ⟨s1, m3, hL, rfl, hm, st, hb1, r1⟩
    rcases k1 with _ | k1
    · exact loopM_zero hL
    · obtain ⟨qu1, hr, hSu1, hBu1⟩ := loopM_succ hL
      clear hL
      unfold testgateref13_Check_L1 at hr
      refine W_seq ?_
      refine W_region ?_
      refine WO_seg 1 [(15, .bool (decide (s1 < (List.length p0 : Int))))] (by kernel_rfl) (by kernel_rfl) ?_
      refine WO_end rfl ?_
      refine X_then ?_
      refine W_seq ?_
      refine W_cond (decide (s1 < (List.length p0 : Int))) (by kernel_rfl) ?_ ?_
      · intro hc
        rw [if_pos hc] at hr
        refine W_skip ?_
        refine X_then ?_
        refine W_seq ?_
        refine W_block ?_
        refine W_seq ?_
        refine W_region ?_
        refine WO_seg 1 [(16, .int .i64 s1)] (by kernel_rfl) (by kernel_rfl) ?_
        replace hr := bindS hr
        obtain ⟨x1, hx1, hr⟩ := hr
        refine WO_one rfl (One_index (d := 17) (t := 22) (e := 9) (x := (.tmp 12)) (y := (.tmp 14)) cStr (by kernel_rfl) rfl (show evL _ _ = some (.slice a1 (List.length p0) c1) from (by kernel_rfl)) (show evL _ _ = some (.int .i64 s1) from (by kernel_rfl)) (by kernel_rfl) r1 hx1 ?_)
        rintro b2 f1 cs1 rfl hq1
        refine WO_one rfl (One_load_row (d := 18) (t := 9) (x := (.tmp 17)) (.string x1) (by kernel_rfl) rfl (show evL _ _ = some (.pointer (some ⟨b2, f1, none⟩)) from (by kernel_rfl)) st hq1 (by kernel_rfl) ?_)
        refine WO_seg 2 [(3, .int .i64 s1), (4, .string x1)] (by kernel_rfl) (by kernel_rfl) ?_
        refine WO_end rfl ?_
        refine X_then ?_
        refine W_seq ?_
        refine W_region ?_
        refine WO_seg 1 [(19, .pointer (some ⟨b1, 0, none⟩))] (by kernel_rfl) (by kernel_rfl) ?_
        refine WO_one rfl (One_load_row (d := 20) (t := 22) (x := (.tmp 19)) (.slice a1 (List.length p0) c1) (by kernel_rfl) rfl (show evL _ _ = some (.pointer (some ⟨b1, 0, none⟩)) from (by kernel_rfl)) st hb1 (by kernel_rfl) ?_)
        refine WO_seg 1 [(21, .int .i64 s1)] (by kernel_rfl) (by kernel_rfl) ?_
        replace hr := bindS hr
        obtain ⟨l1, hx2, hr⟩ := hr
        refine WO_one rfl (One_slice (d := 22) (t := 22) (e := 9) (x := (.tmp 20)) (lo := none) (hi := (some (.tmp 21))) cStr (by kernel_rfl) rfl (show evL _ _ = some (.slice a1 (List.length p0) c1) from (by kernel_rfl)) (by kernel_rfl) r1 (.inl ⟨rfl, rfl⟩) (.inr ⟨_, _, rfl, (show evL _ _ = some (.int .i64 s1) from (by kernel_rfl))⟩) hx2 ?_)
        intro a2 c2 r2
        refine WO_seg 2 [(23, .int .i64 (List.length l1 : Int)), (24, .int .i64 0)] (by kernel_rfl) (by kernel_rfl) ?_
        refine WO_end rfl ?_
        refine X_then ?_
        refine W_block ?_
        replace hr := bindS hr
        obtain ⟨out2, hr, hrKu2⟩ := hr
        refine W_cut (.exit 2) (fun L' w' => ∃ (o2 : Unit) (m4 : Mem), (.inl o2) = out2 ∧ L' = [(1, .pointer (some ⟨b1, 0, none⟩)), (12, .slice a1 (List.length p0) c1), (13, .int .i64 (List.length p0 : Int)), (14, .int .i64 s1)] ∧ m.le m4 ∧ St m4 (own) w' ∧ MRow m4 b1 0 [.slice a1 (List.length p0) c1] ∧ RepS cStr m4 a1 c1 p0) ?_ ?_
        · clear hr st
          rintro _ w4 ⟨o2, m4, rfl, rfl, hm, st, hb1, r1⟩
          have hr := hrKu2
          clear hrKu2
          dsimp only at hr
          refine X_block_eq ?_
          refine X_block ?_
          refine X_then ?_
          refine W_region ?_
          refine WO_seg 2 [(14, .int .i64 (IntKind.wrap .i64 (s1 + 1)))] (by kernel_rfl) (by kernel_rfl) ?_
          refine WO_end rfl ?_
          obtain rfl := Option.some.inj hr
          have hL := hSu1 _ rfl
          exact X_env _ (by kernel_rfl) (X_round k1 (Nat.lt_succ_self _) ⟨IntKind.wrap .i64 (s1 + 1), m4, hL, rfl, hm, st, hb1, r1⟩)
        intro K2_u2
        refine W_env _ (by kernel_rfl) (W_loop (fun k2 L' w' => ∃ (s2 : Int) (m5 : Mem), loopM (testgateref13_Check_L2 N x1 l1) k2 s2 = some out2 ∧ L' = [(1, .pointer (some ⟨b1, 0, none⟩)), (4, .string x1), (12, .slice a1 (List.length p0) c1), (13, .int .i64 (List.length p0 : Int)), (14, .int .i64 s1), (22, .slice a2 (List.length l1) c2), (23, .int .i64 (List.length l1 : Int)), (24, .int .i64 s2)] ∧ m.le m5 ∧ St m5 (own) w' ∧ MRow m5 b1 0 [.slice a1 (List.length p0) c1] ∧ RepS cStr m5 a1 c1 p0 ∧ RepS cStr m5 a2 c2 l1) N ⟨0, m3, hr, rfl, hm, st, hb1, r1, r2⟩ ?_)
        clear st hr
        rintro k2 _ w5 ⟨s2, m5, hL, rfl, hm, st, hb1, r1, r2⟩
        rcases k2 with _ | k2
        · exact loopM_zero hL
        · obtain ⟨qu2, hr, hSu2, hBu2⟩ := loopM_succ hL
          clear hL
          unfold testgateref13_Check_L2 at hr
          refine W_seq ?_
          refine W_region ?_
          refine WO_seg 1 [(25, .bool (decide (s2 < (List.length l1 : Int))))] (by kernel_rfl) (by kernel_rfl) ?_
          refine WO_end rfl ?_
          refine X_then ?_
          refine W_seq ?_
          refine W_cond (decide (s2 < (List.length l1 : Int))) (by kernel_rfl) ?_ ?_
          · intro hc
            rw [if_pos hc] at hr
            refine W_skip ?_
            refine X_then ?_
            refine W_seq ?_
            refine W_block ?_
            refine W_seq ?_
            refine W_region ?_
            replace hr := bindS hr
            obtain ⟨x2, hx3, hr⟩ := hr
            refine WO_one rfl (One_index (d := 26) (t := 22) (e := 9) (x := (.tmp 22)) (y := (.tmp 24)) cStr (by kernel_rfl) rfl (show evL _ _ = some (.slice a2 (List.length l1) c2) from (by kernel_rfl)) (show evL _ _ = some (.int .i64 s2) from (by kernel_rfl)) (by kernel_rfl) r2 hx3 ?_)
            rintro b3 f2 cs2 rfl hq2
            refine WO_one rfl (One_load_row (d := 27) (t := 9) (x := (.tmp 26)) (.string x2) (by kernel_rfl) rfl (show evL _ _ = some (.pointer (some ⟨b3, f2, none⟩)) from (by kernel_rfl)) st hq2 (by kernel_rfl) ?_)
            refine WO_seg 1 [(6, .string x2)] (by kernel_rfl) (by kernel_rfl) ?_
            refine WO_end rfl ?_
            refine X_then ?_
            refine W_seq ?_
            refine W_region ?_
            refine WO_seg 3 [(30, .bool (x1.toList == x2.toList))] (by kernel_rfl) (by kernel_rfl) ?_
            refine WO_end rfl ?_
            refine X_then ?_
            refine W_cond (x1.toList == x2.toList) (by kernel_rfl) ?_ ?_
            · intro hc
              rw [if_pos hc] at hr
              refine W_seq ?_
              refine W_region ?_
              refine WO_seg 1 [(2, .int .i64 10)] (by kernel_rfl) (by kernel_rfl) ?_
              refine WO_end rfl ?_
              refine X_then ?_
              refine W_ret ?_
              refine X_block_ret ?_
              refine X_then_ret ?_
              obtain rfl := Option.some.inj hr
              have ho := hBu2 _ rfl
              subst ho
              have hr := hrKu2
              dsimp only at hr
              refine X_then_ret ?_
              refine X_block_ret ?_
              refine X_block_ret ?_
              refine X_then_ret ?_
              obtain rfl := Option.some.inj hr
              have ho := hBu1 _ rfl
              subst ho
              have hr := hrKu1
              dsimp only at hr
              refine X_then_ret ?_
              refine X_block_ret ?_
              refine X_then_ret ?_
              obtain rfl := Option.some.inj hr
              refine X_ret [.tmp 2] [.int .i64 10] rfl (ResAll.cons (ResAt.tmp (by kernel_rfl)) ResAll.nil) ?_
              exact ⟨m5, rfl, hm, st⟩
            · intro hc
              rw [if_neg (not_true hc)] at hr
              refine W_skip ?_
              refine X_block ?_
              refine X_then ?_
              refine W_region ?_
              refine WO_seg 2 [(24, .int .i64 (IntKind.wrap .i64 (s2 + 1)))] (by kernel_rfl) (by kernel_rfl) ?_
              refine WO_end rfl ?_
              obtain rfl := Option.some.inj hr
              have hL := hSu2 _ rfl
              exact X_env _ (by kernel_rfl) (X_round k2 (Nat.lt_succ_self _) ⟨IntKind.wrap .i64 (s2 + 1), m5, hL, rfl, hm, st, hb1, r1, r2⟩)
          · intro hc
            rw [if_neg (not_true hc)] at hr
            refine W_exit ?_
            refine X_then_exit ?_
            obtain rfl := Option.some.inj hr
            have ho := hBu2 _ rfl
            refine X_then_exit ?_
            exact X_env _ (by kernel_rfl) (K2_u2 _ _ ⟨(), m5, ho, rfl, hm, st, hb1, r1⟩)
      · intro hc
        rw [if_neg (not_true hc)] at hr
        refine W_exit ?_
        refine X_then_exit ?_
        obtain rfl := Option.some.inj hr
        have ho := hBu1 _ rfl
        refine X_then_exit ?_
        exact X_env _ (by kernel_rfl) (K0_u1 _ _ ⟨(), m3, ho, rfl, hm, st⟩)

def contents_numbers_L1 (N : Nat) (p0 : List ByteArray) (s1 : Int × (Option (List (ByteArray × Int)))) : Option ((Int × (Option (List (ByteArray × Int)))) ⊕ (((Option (List (ByteArray × Int)))) ⊕ ((Option (List (ByteArray × Int))) × Bool))) :=
  if (decide (s1.1 < (List.length p0 : Int))) = true then ((idx p0 s1.1).bind fun x1 => if ((mgetQ s1.2 x1).isSome) = true then (some (.inr (.inr (((none : Option (List (ByteArray × Int))), false))))) else ((msetQ s1.2 x1 s1.1).bind fun mp1 => some (.inl (IntKind.wrap .i64 (s1.1 + 1), mp1)))) else (some (.inr (.inl s1.2)))

def contents_numbers (N : Nat) (p0 : List ByteArray) : Option ((Option (List (ByteArray × Int))) × Bool) :=
  (loopM (contents_numbers_L1 N p0) N (0, (some [] : Option (List (ByteArray × Int))))).bind fun out1 => (match out1 with | .inl o1 => some (o1, true) | .inr (z) => some z)

set_option maxHeartbeats 4000000 in
set_option maxRecDepth 100000 in
theorem contents_numbers_ok {N : Nat} {m : Mem} {own : List Piece} {w : World} {p0 : List ByteArray} {a1 : Option Addr} {c1 : Nat} {r : (Option (List (ByteArray × Int))) × Bool} (st : St m (own) w) (r1 : RepS cStr m a1 c1 p0) (hr : contents_numbers N p0 = some r) : Calls Go.Proofs.Try.prog 62 #[.agg #[.slice a1 (List.length p0) c1]] w fun e w' => ∃ (rq1 : Option Nat) (re1 : Array MapEntry) (rk1 : Nat) (m' : Mem), e = .returned (.tuple #[.map rq1, .bool r.2]) ∧ m.le m' ∧ St m' (mpiece rq1 re1 rk1 :: own) w' ∧ MapQ (fun s : ByteArray => Value.string s) (cInt .i64) false m' rq1 re1 r.1 := by
  unfold contents_numbers at hr
  have hm := m.le_refl
  refine W_calls Go.Proofs.Try.func62 rfl Go.Proofs.Try.ntmps62 [(0, .agg #[.slice a1 (List.length p0) c1])] (by kernel_rfl) rfl ?_
  refine W_seq ?_
  refine W_region ?_
  refine WO_one rfl (One_box (d := 1) (e := 24) (x := (.tmp 0)) (.agg #[.slice a1 (List.length p0) c1]) (by kernel_rfl) rfl (by kernel_rfl) st ?_)
  clear st
  intro b1 m1 w1 hle1 st hb1
  have hm := Mem.le_trans hm hle1
  have r1 := r1.mono hle1
  refine WO_seg 2 [] (by kernel_rfl) (by kernel_rfl) ?_
  refine WO_end rfl ?_
  refine X_then ?_
  refine W_seq ?_
  refine W_region ?_
  refine WO_one rfl (One_makeMap (d := 9) (t := 92) (by kernel_rfl) rfl st ?_)
  clear st
  intro b2 w2 st
  refine WO_seg 1 [(4, .map (some b2))] (by kernel_rfl) (by kernel_rfl) ?_
  refine WO_end rfl ?_
  refine X_then ?_
  refine W_seq ?_
  refine W_seq ?_
  refine W_region ?_
  refine WO_seg 1 [(10, .pointer (some ⟨b1, 0, none⟩))] (by kernel_rfl) (by kernel_rfl) ?_
  refine WO_one rfl (One_load_row (d := 11) (t := 22) (x := (.tmp 10)) (.slice a1 (List.length p0) c1) (by kernel_rfl) rfl (show evL _ _ = some (.pointer (some ⟨b1, 0, none⟩)) from (by kernel_rfl)) st hb1 (by kernel_rfl) ?_)
  refine WO_seg 2 [(12, .int .i64 (List.length p0 : Int)), (13, .int .i64 0)] (by kernel_rfl) (by kernel_rfl) ?_
  refine WO_end rfl ?_
  refine X_then ?_
  refine W_block ?_
  replace hr := bindS hr
  obtain ⟨out1, hr, hrKu1⟩ := hr
  refine W_cut (.exit 0) (fun L' w' => ∃ (o1 : (Option (List (ByteArray × Int)))) (es1 : Array MapEntry) (ck1 : Nat) (m2 : Mem), (.inl o1) = out1 ∧ L' = [(4, .map (some b2))] ∧ m.le m2 ∧ St m2 (mpiece (some b2) es1 ck1 :: own) w' ∧ MapQ (fun s : ByteArray => Value.string s) (cInt .i64) false m2 (some b2) es1 o1) ?_ ?_
  · clear hr st
    rintro _ w3 ⟨o1, es1, ck1, m2, rfl, rfl, hm, st, r2⟩
    have hr := hrKu1
    clear hrKu1
    dsimp only at hr
    refine X_block_eq ?_
    refine X_then ?_
    refine W_seq ?_
    refine W_region ?_
    refine WO_seg 3 [(2, .map (some b2)), (3, .bool true)] (by kernel_rfl) (by kernel_rfl) ?_
    refine WO_end rfl ?_
    refine X_then ?_
    refine W_ret ?_
    obtain rfl := Option.some.inj hr
    refine X_ret [.tmp 2, .tmp 3] [.map (some b2), .bool true] rfl (ResAll.cons (ResAt.tmp (by kernel_rfl)) (ResAll.cons (ResAt.tmp (by kernel_rfl)) ResAll.nil)) ?_
    exact ⟨(some b2), es1, ck1, m2, rfl, hm, st, r2⟩
  intro K0_u1
  refine W_env _ (by kernel_rfl) (W_loop (fun k1 L' w' => ∃ (s1 : Int × (Option (List (ByteArray × Int)))) (es2 : Array MapEntry) (ck2 : Nat) (m3 : Mem), loopM (contents_numbers_L1 N p0) k1 s1 = some out1 ∧ L' = [(4, .map (some b2)), (11, .slice a1 (List.length p0) c1), (12, .int .i64 (List.length p0 : Int)), (13, .int .i64 s1.1)] ∧ m.le m3 ∧ St m3 (mpiece (some b2) es2 ck2 :: own) w' ∧ RepS cStr m3 a1 c1 p0 ∧ MapQ (fun s : ByteArray => Value.string s) (cInt .i64) false m3 (some b2) es2 s1.2) N ⟨(0, (some [] : Option (List (ByteArray × Int)))), #[], 0, m1, hr, rfl, hm, st, r1, (MapQ.new (fun s : ByteArray => Value.string s) (cInt .i64) false _ _)⟩ ?_)
  clear st hr
  rintro k1 _ w4 ⟨s1, es2, ck2, m3, hL, rfl, hm, st, r1, r3⟩
  rcases k1 with _ | k1
  · exact loopM_zero hL
  · obtain ⟨qu1, hr, hSu1, hBu1⟩ := loopM_succ hL
    clear hL
    unfold contents_numbers_L1 at hr
    refine W_seq ?_
    refine W_region ?_
    refine WO_seg 1 [(14, .bool (decide (s1.1 < (List.length p0 : Int))))] (by kernel_rfl) (by kernel_rfl) ?_
    refine WO_end rfl ?_
    refine X_then ?_
    refine W_seq ?_
    refine W_cond (decide (s1.1 < (List.length p0 : Int))) (by kernel_rfl) ?_ ?_
    · intro hc
      rw [if_pos hc] at hr
      refine W_skip ?_
      refine X_then ?_
      refine W_seq ?_
      refine W_block ?_
      refine W_seq ?_
      refine W_region ?_
      refine WO_seg 1 [(15, .int .i64 s1.1)] (by kernel_rfl) (by kernel_rfl) ?_
      replace hr := bindS hr
      obtain ⟨x1, hx1, hr⟩ := hr
      refine WO_one rfl (One_index (d := 16) (t := 22) (e := 9) (x := (.tmp 11)) (y := (.tmp 13)) cStr (by kernel_rfl) rfl (show evL _ _ = some (.slice a1 (List.length p0) c1) from (by kernel_rfl)) (show evL _ _ = some (.int .i64 s1.1) from (by kernel_rfl)) (by kernel_rfl) r1 hx1 ?_)
      rintro b3 f1 cs1 rfl hq1
      refine WO_one rfl (One_load_row (d := 17) (t := 9) (x := (.tmp 16)) (.string x1) (by kernel_rfl) rfl (show evL _ _ = some (.pointer (some ⟨b3, f1, none⟩)) from (by kernel_rfl)) st hq1 (by kernel_rfl) ?_)
      refine WO_seg 2 [(5, .int .i64 s1.1), (6, .string x1)] (by kernel_rfl) (by kernel_rfl) ?_
      refine WO_end rfl ?_
      refine X_then ?_
      refine W_seq ?_
      refine W_seq ?_
      refine W_region ?_
      refine WO_seg 2 [(19, .map (some b2)), (20, .string x1)] (by kernel_rfl) (by kernel_rfl) ?_
      refine WO_one rfl (One_lookup (ek := (fun s : ByteArray => Value.string s)) (c := (cInt .i64)) (agg := false) (k := x1) (zx := 0) (zcs := [.int .i64 0]) (z := (.int .i64 0)) (kt := 9) (et := 3) (d := 21) (t := 92) (x := (.tmp 19)) (y := (.tmp 20)) (ok := true) (by kernel_rfl) rfl (show evL _ _ = some (.map (some b2)) from (by kernel_rfl)) (show evL _ _ = some (.string x1) from (by kernel_rfl)) (by kernel_rfl) (keyStr (by kernel_rfl)) st.head r3 rfl rfl ?_)
      rintro cs2 rfl
      refine WO_seg 5 [(8, .bool ((mgetQ s1.2 x1).isSome))] (by kernel_rfl) (by kernel_rfl) ?_
      refine WO_end rfl ?_
      refine X_then ?_
      refine W_seq ?_
      refine W_region ?_
      refine WO_seg 1 [(24, .bool ((mgetQ s1.2 x1).isSome))] (by kernel_rfl) (by kernel_rfl) ?_
      refine WO_end rfl ?_
      refine X_then ?_
      refine W_cond ((mgetQ s1.2 x1).isSome) (by kernel_rfl) ?_ ?_
      · intro hc
        rw [if_pos hc] at hr
        refine W_seq ?_
        refine W_region ?_
        refine WO_seg 2 [(2, .map none), (3, .bool false)] (by kernel_rfl) (by kernel_rfl) ?_
        refine WO_end rfl ?_
        refine X_then ?_
        refine W_ret ?_
        refine X_then_ret ?_
        refine X_block_ret ?_
        refine X_then_ret ?_
        obtain rfl := Option.some.inj hr
        have ho := hBu1 _ rfl
        subst ho
        have hr := hrKu1
        dsimp only at hr
        refine X_then_ret ?_
        refine X_block_ret ?_
        refine X_then_ret ?_
        obtain rfl := Option.some.inj hr
        refine X_ret [.tmp 2, .tmp 3] [.map none, .bool false] rfl (ResAll.cons (ResAt.tmp (by kernel_rfl)) (ResAll.cons (ResAt.tmp (by kernel_rfl)) ResAll.nil)) ?_
        have st := nil_mpiece st
        have st := st.front1
        have st := st.tail
        exact ⟨none, #[], 0, m3, rfl, hm, st, (MapQ.nil _ _ _ _ _)⟩
      · intro hc
        rw [if_neg (not_true hc)] at hr
        refine W_skip ?_
        refine X_then ?_
        refine W_region ?_
        refine WO_seg 3 [(25, .map (some b2)), (26, .string x1), (27, .int .i64 s1.1)] (by kernel_rfl) (by kernel_rfl) ?_
        replace hr := bindS hr
        obtain ⟨mp1, hx2, hr⟩ := hr
        refine WO_one rfl (One_mapUpdate (ek := (fun s : ByteArray => Value.string s)) (c := (cInt .i64)) (agg := false) (k := x1) (yv := s1.1) (cs := [.int .i64 s1.1]) (z := (.int .i64 0)) (v := (.int .i64 s1.1)) (kt := 9) (et := 3) (t := 92) (x := (.tmp 25)) (y := (.tmp 26)) (u := (.tmp 27)) (by kernel_rfl) (show evL _ _ = some (.map (some b2)) from (by kernel_rfl)) (show evL _ _ = some (.string x1) from (by kernel_rfl)) (show evL _ _ = some (.int .i64 s1.1) from (by kernel_rfl)) (by kernel_rfl) (keyStr (by kernel_rfl)) st r3 rfl rfl hx2 ?_)
        clear st
        intro es3 ck3 w5 st r4
        refine WO_end rfl ?_
        refine X_block ?_
        refine X_then ?_
        refine W_region ?_
        refine WO_seg 2 [(13, .int .i64 (IntKind.wrap .i64 (s1.1 + 1)))] (by kernel_rfl) (by kernel_rfl) ?_
        refine WO_end rfl ?_
        obtain rfl := Option.some.inj hr
        have hL := hSu1 _ rfl
        exact X_env _ (by kernel_rfl) (X_round k1 (Nat.lt_succ_self _) ⟨(IntKind.wrap .i64 (s1.1 + 1), mp1), es3, ck3, m3, hL, rfl, hm, st, r1, r4⟩)
    · intro hc
      rw [if_neg (not_true hc)] at hr
      refine W_exit ?_
      refine X_then_exit ?_
      obtain rfl := Option.some.inj hr
      have ho := hBu1 _ rfl
      refine X_then_exit ?_
      exact X_env _ (by kernel_rfl) (K0_u1 _ _ ⟨s1.2, es2, ck2, m3, ho, rfl, hm, st, r3⟩)

def contents_Check (N : Nat) (p0 : List ByteArray) : Option (Int) :=
  if (decide ((List.length p0 : Int) > 4096)) = true then (some 2) else ((contents_numbers N p0).bind fun y1 => if (!y1.2) = true then (some 10) else (some 0))

set_option maxHeartbeats 4000000 in
set_option maxRecDepth 100000 in
theorem contents_Check_ok {N : Nat} {m : Mem} {own : List Piece} {w : World} {p0 : List ByteArray} {a1 : Option Addr} {c1 : Nat} {r : Int} (st : St m (own) w) (r1 : RepS cStr m a1 c1 p0) (hr : contents_Check N p0 = some r) : Calls Go.Proofs.Try.prog 14 #[.agg #[.slice a1 (List.length p0) c1]] w fun e w' => ∃ (m' : Mem), e = .returned (.int .i64 r) ∧ m.le m' ∧ St m' (own) w' := by
  unfold contents_Check at hr
  have hm := m.le_refl
  refine W_calls Go.Proofs.Try.func14 rfl Go.Proofs.Try.ntmps14 [(0, .agg #[.slice a1 (List.length p0) c1])] (by kernel_rfl) rfl ?_
  refine W_seq ?_
  refine W_region ?_
  refine WO_one rfl (One_box (d := 1) (e := 24) (x := (.tmp 0)) (.agg #[.slice a1 (List.length p0) c1]) (by kernel_rfl) rfl (by kernel_rfl) st ?_)
  clear st
  intro b1 m1 w1 hle1 st hb1
  have hm := Mem.le_trans hm hle1
  have r1 := r1.mono hle1
  refine WO_seg 1 [] (by kernel_rfl) (by kernel_rfl) ?_
  refine WO_end rfl ?_
  refine X_then ?_
  refine W_seq ?_
  refine W_seq ?_
  refine W_region ?_
  refine WO_seg 1 [(5, .pointer (some ⟨b1, 0, none⟩))] (by kernel_rfl) (by kernel_rfl) ?_
  refine WO_one rfl (One_load_row (d := 6) (t := 22) (x := (.tmp 5)) (.slice a1 (List.length p0) c1) (by kernel_rfl) rfl (show evL _ _ = some (.pointer (some ⟨b1, 0, none⟩)) from (by kernel_rfl)) st hb1 (by kernel_rfl) ?_)
  refine WO_seg 2 [(8, .bool (decide ((List.length p0 : Int) > 4096)))] (by kernel_rfl) (by kernel_rfl) ?_
  refine WO_end rfl ?_
  refine X_then ?_
  refine W_cond (decide ((List.length p0 : Int) > 4096)) (by kernel_rfl) ?_ ?_
  · intro hc
    rw [if_pos hc] at hr
    refine W_seq ?_
    refine W_region ?_
    refine WO_seg 1 [(2, .int .i64 2)] (by kernel_rfl) (by kernel_rfl) ?_
    refine WO_end rfl ?_
    refine X_then ?_
    refine W_ret ?_
    refine X_then_ret ?_
    obtain rfl := Option.some.inj hr
    refine X_ret [.tmp 2] [.int .i64 2] rfl (ResAll.cons (ResAt.tmp (by kernel_rfl)) ResAll.nil) ?_
    exact ⟨m1, rfl, hm, st⟩
  · intro hc
    rw [if_neg (not_true hc)] at hr
    refine W_skip ?_
    refine X_then ?_
    refine W_seq ?_
    refine W_seq ?_
    refine W_region ?_
    refine WO_one rfl (One_load_row (d := 10) (t := 24) (x := (.tmp 1)) (.agg #[.slice a1 (List.length p0) c1]) (by kernel_rfl) rfl (show evL _ _ = some (.pointer (some ⟨b1, 0, none⟩)) from (by kernel_rfl)) st hb1 (by kernel_rfl) ?_)
    replace hr := bindS hr
    obtain ⟨y1, hx1, hr⟩ := hr
    refine WO_one rfl (One_fn 11 62 #[.agg #[.slice a1 (List.length p0) c1]] (by kernel_rfl) rfl ?_)
    refine (contents_numbers_ok st r1 hx1).mono ?_
    clear st
    rintro _ w2 ⟨q1, es1, ck1, m2, rfl, hle2, st, r2⟩
    refine ⟨_, rfl, ?_⟩
    have hm := Mem.le_trans hm hle2
    have hb1 := hb1.mono hle2
    have r1 := r1.mono hle2
    refine WO_seg 5 [(4, .bool y1.2)] (by kernel_rfl) (by kernel_rfl) ?_
    refine WO_end rfl ?_
    refine X_then ?_
    refine W_seq ?_
    refine W_region ?_
    refine WO_seg 2 [(15, .bool (!y1.2))] (by kernel_rfl) (by kernel_rfl) ?_
    refine WO_end rfl ?_
    refine X_then ?_
    refine W_cond (!y1.2) (by kernel_rfl) ?_ ?_
    · intro hc
      rw [if_pos hc] at hr
      refine W_seq ?_
      refine W_region ?_
      refine WO_seg 1 [(2, .int .i64 10)] (by kernel_rfl) (by kernel_rfl) ?_
      refine WO_end rfl ?_
      refine X_then ?_
      refine W_ret ?_
      refine X_then_ret ?_
      obtain rfl := Option.some.inj hr
      refine X_ret [.tmp 2] [.int .i64 10] rfl (ResAll.cons (ResAt.tmp (by kernel_rfl)) ResAll.nil) ?_
      have st := st.tail
      exact ⟨m2, rfl, hm, st⟩
    · intro hc
      rw [if_neg (not_true hc)] at hr
      refine W_skip ?_
      refine X_then ?_
      refine W_seq ?_
      refine W_region ?_
      refine WO_seg 1 [(2, .int .i64 0)] (by kernel_rfl) (by kernel_rfl) ?_
      refine WO_end rfl ?_
      refine X_then ?_
      refine W_ret ?_
      obtain rfl := Option.some.inj hr
      refine X_ret [.tmp 2] [.int .i64 0] rfl (ResAll.cons (ResAt.tmp (by kernel_rfl)) ResAll.nil) ?_
      have st := st.tail
      exact ⟨m2, rfl, hm, st⟩

def slices_Clone_string_string (N : Nat) (p0 : List ByteArray) : Option (List ByteArray) :=
  nilS p0 (some ([] : List (ByteArray))) ((appendS 16 ([] : List (ByteArray)) p0).bind fun l1 => some l1)

set_option maxHeartbeats 4000000 in
set_option maxRecDepth 100000 in
theorem slices_Clone_string_string_ok {N : Nat} {m : Mem} {own : List Piece} {w : World} {p0 : List ByteArray} {a1 : Option Addr} {c1 : Nat} {r : List ByteArray} (st : St m (own) w) (r1 : RepS cStr m a1 c1 p0) (hr : slices_Clone_string_string N p0 = some r) : Calls Go.Proofs.Try.prog 71 #[.slice a1 (List.length p0) c1] w fun e w' => ∃ (ra1 : Option Addr) (rc1 : Nat) (m' : Mem), e = .returned (.slice ra1 (List.length r) rc1) ∧ m.le m' ∧ St m' (.room ra1 (List.length r) rc1 9 1 :: own) w' ∧ RepS cStr m' ra1 rc1 r := by
  unfold slices_Clone_string_string at hr
  have hm := m.le_refl
  refine W_calls Go.Proofs.Try.func71 rfl Go.Proofs.Try.ntmps71 [(0, .slice a1 (List.length p0) c1)] (by kernel_rfl) rfl ?_
  refine W_seq ?_
  refine W_region ?_
  refine WO_seg 1 [] (by kernel_rfl) (by kernel_rfl) ?_
  refine WO_end rfl ?_
  refine X_then ?_
  refine W_seq ?_
  refine W_seq ?_
  refine W_region ?_
  refine WO_seg 1 [(3, .slice a1 (List.length p0) c1)] (by kernel_rfl) (by kernel_rfl) ?_
  rcases bcases (Option.isNone a1) with hnil | hnil
  · replace hr := nilS_true hr r1 hnil
    refine WO_one rfl (One_nileq (d := 4) (t := 22) (t2 := 22) (e := 9) (x := (.tmp 3)) (y := (.const (.slice none 0 0))) true (by kernel_rfl) rfl (show evL _ _ = some (.slice a1 (List.length p0) c1) from (by kernel_rfl)) (by kernel_rfl) rfl hnil ?_)
    refine WO_end rfl ?_
    refine X_then ?_
    refine W_cond true (by kernel_rfl) ?_ (fun h => Bool.noConfusion h)
    intro _
    refine W_seq ?_
    refine W_region ?_
    refine WO_seg 1 [(2, .slice none (List.length ([] : List (ByteArray))) 0)] (by kernel_rfl) (by kernel_rfl) ?_
    refine WO_end rfl ?_
    refine X_then ?_
    refine W_ret ?_
    refine X_then_ret ?_
    obtain rfl := Option.some.inj hr
    refine X_ret [.tmp 2] [.slice none (List.length ([] : List (ByteArray))) 0] rfl (ResAll.cons (ResAt.tmp (by kernel_rfl)) ResAll.nil) ?_
    have st := st.nilroom 9 1
    exact ⟨none, 0, m, rfl, hm, st, (RepS.nil _ _)⟩
  · replace hr := nilS_false hr
    refine WO_one rfl (One_nileq (d := 4) (t := 22) (t2 := 22) (e := 9) (x := (.tmp 3)) (y := (.const (.slice none 0 0))) false (by kernel_rfl) rfl (show evL _ _ = some (.slice a1 (List.length p0) c1) from (by kernel_rfl)) (by kernel_rfl) rfl hnil ?_)
    refine WO_end rfl ?_
    refine X_then ?_
    refine W_cond false (by kernel_rfl) (fun h => Bool.noConfusion h) ?_
    intro _
    refine W_skip ?_
    refine X_then ?_
    refine W_seq ?_
    refine W_region ?_
    refine WO_one rfl (One_buildSlice (d := 5) (t := 22) (e := 9) (len := 0) (parts := #[]) cStr (xs := ([] : List (ByteArray))) [] (by kernel_rfl) rfl (fun _ => buildEmpty_run (by simp) (by kernel_rfl) _) rfl rfl st rfl ?_)
    clear st
    intro b1 m1 w1 hle1 st r2
    have hm := Mem.le_trans hm hle1
    have r1 := r1.mono hle1
    refine WO_seg 1 [(6, .slice a1 (List.length p0) c1)] (by kernel_rfl) (by kernel_rfl) ?_
    replace hr := bindS hr
    obtain ⟨l1, hx1, hr⟩ := hr
    refine WO_one rfl (One_append (d := 7) (t := 22) (u := 22) (e := 9) (by_ := 16) (x := (.tmp 5)) (y := (.tmp 6)) cStr (by kernel_rfl) rfl (show evL _ _ = some (.slice (some ⟨b1, 0, none⟩) (List.length ([] : List (ByteArray))) 0) from (by kernel_rfl)) (show evL _ _ = some (.slice a1 (List.length p0) c1) from (by kernel_rfl)) st (by kernel_rfl) (.inl (by kernel_rfl)) r2 r1.src hx1 ?_)
    clear st
    intro a2 c2 m2 w2 hle2 st r3
    have hm := Mem.le_trans hm hle2
    have r1 := r1.mono hle2
    have r2 := r2.mono hle2
    refine WO_seg 1 [(2, .slice a2 (List.length l1) c2)] (by kernel_rfl) (by kernel_rfl) ?_
    refine WO_end rfl ?_
    refine X_then ?_
    refine W_ret ?_
    obtain rfl := Option.some.inj hr
    refine X_ret [.tmp 2] [.slice a2 (List.length l1) c2] rfl (ResAll.cons (ResAt.tmp (by kernel_rfl)) ResAll.nil) ?_
    exact ⟨a2, c2, m2, rfl, hm, st, r3⟩

def contents_Merge_L1 (N : Nat) (p1 : List ByteArray) (s1 : Int × List (ByteArray) × List (Int) × (Option (List (ByteArray × Int)))) : Option ((Int × List (ByteArray) × List (Int) × (Option (List (ByteArray × Int)))) ⊕ ((List (ByteArray) × List (Int) × (Option (List (ByteArray × Int)))) ⊕ (List (ByteArray) × Bool × List (Int)))) :=
  if (decide (s1.1 < (List.length p1 : Int))) = true then ((idx p1 s1.1).bind fun x1 => (if (!((mgetQ s1.2.2.2 x1).isSome)) = true then (if ((List.length s1.2.1 : Int) == 4096) = true then ((some (.inr (.inr ((([] : List (ByteArray)), false, s1.2.2.1))))).map .inr) else ((msetQ s1.2.2.2 x1 (List.length s1.2.1 : Int)).bind fun mp1 => (appendS 16 s1.2.1 ([x1])).bind fun l1 => some (.inl ((List.length s1.2.1 : Int), l1, mp1)))) else (some (.inl (((mgetQ s1.2.2.2 x1).getD 0), s1.2.1, s1.2.2.2))) : Option ((Int × List (ByteArray) × (Option (List (ByteArray × Int)))) ⊕ ((Int × List (ByteArray) × List (Int) × (Option (List (ByteArray × Int)))) ⊕ ((List (ByteArray) × List (Int) × (Option (List (ByteArray × Int)))) ⊕ (List (ByteArray) × Bool × List (Int)))))).bind fun qu3 => (match qu3 with | .inl o3 => (appendS 8 s1.2.2.1 ([o3.1])).bind fun l2 => some (.inl (IntKind.wrap .i64 (s1.1 + 1), o3.2.1, l2, o3.2.2)) | .inr z => some z)) else (some (.inr (.inl (s1.2.1, s1.2.2.1, s1.2.2.2))))

def contents_Merge (N : Nat) (p0 : List ByteArray) (p1 : List ByteArray) : Option (List ByteArray × List Int × Int) :=
  (contents_Check N p0).bind fun y1 => if (y1 != 0) = true then (some (([] : List (ByteArray)), ([] : List (Int)), y1)) else ((contents_Check N p1).bind fun y2 => if (y2 != 0) = true then (some (([] : List (ByteArray)), ([] : List (Int)), y2)) else (((contents_numbers N p0).bind fun y3 => (slices_Clone_string_string N p0).bind fun y4 => (loopM (contents_Merge_L1 N p1) N (0, y4, ([] : List (Int)), y3.1)).bind fun out1 => (match out1 with | .inl o2 => some (o2.1, true, o2.2.1) | .inr (z) => some z) : Option (List (ByteArray) × Bool × List (Int))).bind fun o1 => if (!o1.2.1) = true then (some (([] : List (ByteArray)), ([] : List (Int)), 2)) else (some (o1.1, o1.2.2, 0))))

set_option maxHeartbeats 4000000 in
set_option maxRecDepth 100000 in
theorem contents_Merge_ok {N : Nat} {m : Mem} {own : List Piece} {w : World} {p0 : List ByteArray} {p1 : List ByteArray} {a1 : Option Addr} {c1 : Nat} {a2 : Option Addr} {c2 : Nat} {r : List ByteArray × List Int × Int} (st : St m (own) w) (r1 : RepS cStr m a1 c1 p0) (r2 : RepS cStr m a2 c2 p1) (hr : contents_Merge N p0 p1 = some r) : Calls Go.Proofs.Try.prog 29 #[.agg #[.slice a1 (List.length p0) c1], .agg #[.slice a2 (List.length p1) c2]] w fun e w' => ∃ (ra1 : Option Addr) (rc1 : Nat) (ra2 : Option Addr) (rc2 : Nat) (m' : Mem), e = .returned (.tuple #[.agg #[.slice ra1 (List.length r.1) rc1], .slice ra2 (List.length r.2.1) rc2, .int .i64 r.2.2]) ∧ m.le m' ∧ St m' (.room ra1 (List.length r.1) rc1 9 1 :: .room ra2 (List.length r.2.1) rc2 3 1 :: own) w' ∧ RepS cStr m' ra1 rc1 r.1 ∧ RepS (cInt .i64) m' ra2 rc2 r.2.1 := by
  unfold contents_Merge at hr
  have hm := m.le_refl
  refine W_calls Go.Proofs.Try.func29 rfl Go.Proofs.Try.ntmps29 [(0, .agg #[.slice a1 (List.length p0) c1]), (1, .agg #[.slice a2 (List.length p1) c2])] (by kernel_rfl) rfl ?_
  refine W_seq ?_
  refine W_region ?_
  refine WO_one rfl (One_box (d := 2) (e := 24) (x := (.tmp 0)) (.agg #[.slice a1 (List.length p0) c1]) (by kernel_rfl) rfl (by kernel_rfl) st ?_)
  clear st
  intro b1 m1 w1 hle1 st hb1
  have hm := Mem.le_trans hm hle1
  have r1 := r1.mono hle1
  have r2 := r2.mono hle1
  refine WO_one rfl (One_box (d := 3) (e := 24) (x := (.tmp 1)) (.agg #[.slice a2 (List.length p1) c2]) (by kernel_rfl) rfl (by kernel_rfl) st ?_)
  clear st
  intro b2 m2 w2 hle2 st hb2
  have hm := Mem.le_trans hm hle2
  have r1 := r1.mono hle2
  have r2 := r2.mono hle2
  have hb1 := hb1.mono hle2
  refine WO_one rfl (One_alloc (d := 4) (e := 24) (.agg #[.slice none 0 0]) (by kernel_rfl) rfl (by kernel_rfl) st ?_)
  clear st
  intro b3 w3 st
  refine WO_seg 2 [] (by kernel_rfl) (by kernel_rfl) ?_
  refine WO_end rfl ?_
  refine X_then ?_
  refine W_seq ?_
  refine W_seq ?_
  refine W_region ?_
  refine WO_one rfl (One_load_row (d := 12) (t := 24) (x := (.tmp 2)) (.agg #[.slice a1 (List.length p0) c1]) (by kernel_rfl) rfl (show evL _ _ = some (.pointer (some ⟨b1, 0, none⟩)) from (by kernel_rfl)) st hb1 (by kernel_rfl) ?_)
  replace hr := bindS hr
  obtain ⟨y1, hx1, hr⟩ := hr
  refine WO_one rfl (One_fn 13 14 #[.agg #[.slice a1 (List.length p0) c1]] (by kernel_rfl) rfl ?_)
  refine (contents_Check_ok st r1 hx1).mono ?_
  clear st
  rintro _ w4 ⟨m3, rfl, hle3, st⟩
  refine ⟨_, rfl, ?_⟩
  have hm := Mem.le_trans hm hle3
  have hb1 := hb1.mono hle3
  have r1 := r1.mono hle3
  have hb2 := hb2.mono hle3
  have r2 := r2.mono hle3
  refine WO_seg 1 [(7, .int .i64 y1)] (by kernel_rfl) (by kernel_rfl) ?_
  refine WO_end rfl ?_
  refine X_then ?_
  refine W_seq ?_
  refine W_region ?_
  refine WO_seg 2 [(15, .bool (y1 != 0))] (by kernel_rfl) (by kernel_rfl) ?_
  refine WO_end rfl ?_
  refine X_then ?_
  refine W_cond (y1 != 0) (by kernel_rfl) ?_ ?_
  · intro hc
    rw [if_pos hc] at hr
    refine W_seq ?_
    refine W_region ?_
    refine WO_seg 2 [(16, .agg #[.slice none (List.length ([] : List (ByteArray))) 0]), (17, .int .i64 y1)] (by kernel_rfl) (by kernel_rfl) ?_
    refine WO_one rfl (One_store (t := 24) (x := (.tmp 4)) (y := (.tmp 16)) (v := .agg #[.slice none (List.length ([] : List (ByteArray))) 0]) (c' := #[.slice none (List.length ([] : List (ByteArray))) 0]) (by kernel_rfl) (show evL _ _ = some (.pointer (some ⟨b3, 0, none⟩)) from (by kernel_rfl)) (show evL _ _ = some (.agg #[.slice none (List.length ([] : List (ByteArray))) 0]) from (by kernel_rfl)) st (by kernel_rfl) (by kernel_rfl) ?_)
    clear st
    intro w5 st
    refine WO_seg 2 [(5, .slice none (List.length ([] : List (Int))) 0), (6, .int .i64 y1)] (by kernel_rfl) (by kernel_rfl) ?_
    refine WO_end rfl ?_
    refine X_then ?_
    refine W_ret ?_
    refine X_then_ret ?_
    obtain rfl := Option.some.inj hr
    refine X_ret [.cell 4 24, .tmp 5, .tmp 6] [.agg #[.slice none (List.length ([] : List (ByteArray))) 0], .slice none (List.length ([] : List (Int))) 0, .int .i64 y1] rfl (ResAll.cons (ResAt.blk (v := .agg #[.slice none (List.length ([] : List (ByteArray))) 0]) (o := 0) (by kernel_rfl) st.head (by kernel_rfl)) (ResAll.cons (ResAt.tmp (by kernel_rfl)) (ResAll.cons (ResAt.tmp (by kernel_rfl)) ResAll.nil))) ?_
    have st := st.nilroom 9 1
    have st := st.nilroom 3 1
    have st := st.front2
    have st := st.tail
    have st := st.front1
    exact ⟨none, 0, none, 0, m3, rfl, hm, st, (RepS.nil _ _), (RepS.nil _ _)⟩
  · intro hc
    rw [if_neg (not_true hc)] at hr
    refine W_skip ?_
    refine X_then ?_
    refine W_seq ?_
    refine W_seq ?_
    refine W_region ?_
    refine WO_one rfl (One_load_row (d := 18) (t := 24) (x := (.tmp 3)) (.agg #[.slice a2 (List.length p1) c2]) (by kernel_rfl) rfl (show evL _ _ = some (.pointer (some ⟨b2, 0, none⟩)) from (by kernel_rfl)) st hb2 (by kernel_rfl) ?_)
    replace hr := bindS hr
    obtain ⟨y2, hx2, hr⟩ := hr
    refine WO_one rfl (One_fn 19 14 #[.agg #[.slice a2 (List.length p1) c2]] (by kernel_rfl) rfl ?_)
    refine (contents_Check_ok st r2 hx2).mono ?_
    clear st
    rintro _ w6 ⟨m4, rfl, hle4, st⟩
    refine ⟨_, rfl, ?_⟩
    have hm := Mem.le_trans hm hle4
    have hb1 := hb1.mono hle4
    have r1 := r1.mono hle4
    have hb2 := hb2.mono hle4
    have r2 := r2.mono hle4
    refine WO_seg 1 [(8, .int .i64 y2)] (by kernel_rfl) (by kernel_rfl) ?_
    refine WO_end rfl ?_
    refine X_then ?_
    refine W_seq ?_
    refine W_region ?_
    refine WO_seg 2 [(21, .bool (y2 != 0))] (by kernel_rfl) (by kernel_rfl) ?_
    refine WO_end rfl ?_
    refine X_then ?_
    refine W_cond (y2 != 0) (by kernel_rfl) ?_ ?_
    · intro hc
      rw [if_pos hc] at hr
      refine W_seq ?_
      refine W_region ?_
      refine WO_seg 2 [(22, .agg #[.slice none (List.length ([] : List (ByteArray))) 0]), (23, .int .i64 y2)] (by kernel_rfl) (by kernel_rfl) ?_
      refine WO_one rfl (One_store (t := 24) (x := (.tmp 4)) (y := (.tmp 22)) (v := .agg #[.slice none (List.length ([] : List (ByteArray))) 0]) (c' := #[.slice none (List.length ([] : List (ByteArray))) 0]) (by kernel_rfl) (show evL _ _ = some (.pointer (some ⟨b3, 0, none⟩)) from (by kernel_rfl)) (show evL _ _ = some (.agg #[.slice none (List.length ([] : List (ByteArray))) 0]) from (by kernel_rfl)) st (by kernel_rfl) (by kernel_rfl) ?_)
      clear st
      intro w7 st
      refine WO_seg 2 [(5, .slice none (List.length ([] : List (Int))) 0), (6, .int .i64 y2)] (by kernel_rfl) (by kernel_rfl) ?_
      refine WO_end rfl ?_
      refine X_then ?_
      refine W_ret ?_
      refine X_then_ret ?_
      obtain rfl := Option.some.inj hr
      refine X_ret [.cell 4 24, .tmp 5, .tmp 6] [.agg #[.slice none (List.length ([] : List (ByteArray))) 0], .slice none (List.length ([] : List (Int))) 0, .int .i64 y2] rfl (ResAll.cons (ResAt.blk (v := .agg #[.slice none (List.length ([] : List (ByteArray))) 0]) (o := 0) (by kernel_rfl) st.head (by kernel_rfl)) (ResAll.cons (ResAt.tmp (by kernel_rfl)) (ResAll.cons (ResAt.tmp (by kernel_rfl)) ResAll.nil))) ?_
      have st := st.nilroom 9 1
      have st := st.nilroom 3 1
      have st := st.front2
      have st := st.tail
      have st := st.front1
      exact ⟨none, 0, none, 0, m4, rfl, hm, st, (RepS.nil _ _), (RepS.nil _ _)⟩
    · intro hc
      rw [if_neg (not_true hc)] at hr
      refine W_skip ?_
      refine X_then ?_
      refine W_seq ?_
      refine W_region ?_
      refine WO_one rfl (One_alloc (d := 9) (e := 32) (.slice none 0 0) (by kernel_rfl) rfl (by kernel_rfl) st ?_)
      clear st
      intro b4 w8 st
      refine WO_end rfl ?_
      refine X_then ?_
      refine W_seq ?_
      refine W_region ?_
      refine WO_one rfl (One_load_row (d := 25) (t := 24) (x := (.tmp 2)) (.agg #[.slice a1 (List.length p0) c1]) (by kernel_rfl) rfl (show evL _ _ = some (.pointer (some ⟨b1, 0, none⟩)) from (by kernel_rfl)) st hb1 (by kernel_rfl) ?_)
      refine WO_seg 1 [(26, .pointer (some ⟨b2, 0, none⟩))] (by kernel_rfl) (by kernel_rfl) ?_
      refine WO_one rfl (One_load_row (d := 27) (t := 22) (x := (.tmp 26)) (.slice a2 (List.length p1) c2) (by kernel_rfl) rfl (show evL _ _ = some (.pointer (some ⟨b2, 0, none⟩)) from (by kernel_rfl)) st hb2 (by kernel_rfl) ?_)
      refine WO_seg 1 [(28, .func (.func 67) #[] #[.pointer (some ⟨b4, 0, none⟩)])] (by kernel_rfl) (by kernel_rfl) ?_
      replace hr := bindS hr
      obtain ⟨o1, hr, hrKu1⟩ := hr
      refine WO_one rfl (One_fn 29 66 #[.agg #[.slice a1 (List.length p0) c1], .slice a2 (List.length p1) c2, .func (.func 67) #[] #[.pointer (some ⟨b4, 0, none⟩)]] (by kernel_rfl) rfl ?_)
      refine Calls_cut (fun v' w' => ∃ (a3 : Option Addr) (c3 : Nat) (a4 : Option Addr) (c4 : Nat) (m5 : Mem), v' = (.tuple #[.agg #[.slice a3 (List.length o1.1) c3], .bool o1.2.1]) ∧ m.le m5 ∧ St m5 (.blk b4 (.cells #[.slice a4 (List.length o1.2.2) c4] 32 (0, 0)) :: .blk b3 (.cells #[.slice none (List.length ([] : List (ByteArray))) 0] 24 (0, 0)) :: .room a3 (List.length o1.1) c3 9 1 :: .room a4 (List.length o1.2.2) c4 3 1 :: own) w' ∧ RepS cStr m5 a3 c3 o1.1 ∧ MRow m5 b1 0 [.slice a1 (List.length p0) c1] ∧ RepS cStr m5 a1 c1 p0 ∧ MRow m5 b2 0 [.slice a2 (List.length p1) c2] ∧ RepS cStr m5 a2 c2 p1 ∧ RepS (cInt .i64) m5 a4 c4 o1.2.2) ?_ ?_
      · clear hr st
        have hr := hrKu1
        clear hrKu1
        rintro _ w9 ⟨a3, c3, a4, c4, m5, rfl, hm, st, r3, hb1, r1, hb2, r2, r4⟩
        refine ⟨_, rfl, ?_⟩
        refine WO_seg 3 [(30, .agg #[.slice a3 (List.length o1.1) c3]), (31, .bool o1.2.1)] (by kernel_rfl) (by kernel_rfl) ?_
        refine WO_one rfl (One_alloc (d := 10) (e := 24) (.agg #[.slice none 0 0]) (by kernel_rfl) rfl (by kernel_rfl) st ?_)
        clear st
        intro b11 w28 st
        refine WO_one rfl (One_store (t := 24) (x := (.tmp 10)) (y := (.tmp 30)) (v := .agg #[.slice a3 (List.length o1.1) c3]) (c' := #[.slice a3 (List.length o1.1) c3]) (by kernel_rfl) (show evL _ _ = some (.pointer (some ⟨b11, 0, none⟩)) from (by kernel_rfl)) (show evL _ _ = some (.agg #[.slice a3 (List.length o1.1) c3]) from (by kernel_rfl)) st (by kernel_rfl) (by kernel_rfl) ?_)
        clear st
        intro w29 st
        refine WO_seg 1 [(11, .bool o1.2.1)] (by kernel_rfl) (by kernel_rfl) ?_
        refine WO_end rfl ?_
        refine X_then ?_
        refine W_seq ?_
        refine W_seq ?_
        refine W_region ?_
        refine WO_seg 2 [(33, .bool (!o1.2.1))] (by kernel_rfl) (by kernel_rfl) ?_
        refine WO_end rfl ?_
        refine X_then ?_
        refine W_cond (!o1.2.1) (by kernel_rfl) ?_ ?_
        · intro hc
          rw [if_pos hc] at hr
          refine W_seq ?_
          refine W_region ?_
          refine WO_seg 1 [(34, .agg #[.slice none (List.length ([] : List (ByteArray))) 0])] (by kernel_rfl) (by kernel_rfl) ?_
          have st := st.front2
          refine WO_one rfl (One_store (t := 24) (x := (.tmp 4)) (y := (.tmp 34)) (v := .agg #[.slice none (List.length ([] : List (ByteArray))) 0]) (c' := #[.slice none (List.length ([] : List (ByteArray))) 0]) (by kernel_rfl) (show evL _ _ = some (.pointer (some ⟨b3, 0, none⟩)) from (by kernel_rfl)) (show evL _ _ = some (.agg #[.slice none (List.length ([] : List (ByteArray))) 0]) from (by kernel_rfl)) st (by kernel_rfl) (by kernel_rfl) ?_)
          clear st
          intro w30 st
          refine WO_seg 2 [(5, .slice none (List.length ([] : List (Int))) 0), (6, .int .i64 2)] (by kernel_rfl) (by kernel_rfl) ?_
          refine WO_end rfl ?_
          refine X_then ?_
          refine W_ret ?_
          refine X_then_ret ?_
          obtain rfl := Option.some.inj hr
          refine X_ret [.cell 4 24, .tmp 5, .tmp 6] [.agg #[.slice none (List.length ([] : List (ByteArray))) 0], .slice none (List.length ([] : List (Int))) 0, .int .i64 2] rfl (ResAll.cons (ResAt.blk (v := .agg #[.slice none (List.length ([] : List (ByteArray))) 0]) (o := 0) (by kernel_rfl) st.head (by kernel_rfl)) (ResAll.cons (ResAt.tmp (by kernel_rfl)) (ResAll.cons (ResAt.tmp (by kernel_rfl)) ResAll.nil))) ?_
          have st := st.nilroom 9 1
          have st := st.nilroom 3 1
          have st := st.front2
          have st := st.tail
          have st := st.front2
          have st := st.tail
          have st := st.front2
          have st := st.tail
          have st := st.front2
          have st := st.tail
          have st := st.front2
          have st := st.tail
          have st := st.front1
          exact ⟨none, 0, none, 0, m5, rfl, hm, st, (RepS.nil _ _), (RepS.nil _ _)⟩
        · intro hc
          rw [if_neg (not_true hc)] at hr
          refine W_skip ?_
          refine X_then ?_
          refine W_seq ?_
          refine W_draw [(5, fun w' => Inv m5 w' ∧ Piece.holds m5 w' (.blk b11 (.cells #[.slice a3 (List.length o1.1) c3] 24 (0, 0))) ∧ Piece.holds m5 w' (.blk b4 (.cells #[.slice a4 (List.length o1.2.2) c4] 32 (0, 0))) ∧ True)] (by kernel_rfl) st ?_
          clear st
          intro w31 _ st
          have hmS := m5.le_refl
          refine ⟨⟨.inr ⟨Inv.anti st.inv hmS, Piece.holds_anti st.head hmS, Piece.holds_anti st.tail.head hmS, trivial⟩, trivial⟩, ?_⟩
          refine WA_load_own (t := 24) (x := (.tmp 10)) 0 35 (.agg #[.slice a3 (List.length o1.1) c3]) (by kernel_rfl) rfl (by kernel_rfl) (.head _) (QP_then QP_body) (fun _ h => h.2.1) (show evL _ _ = some (.pointer (some ⟨b11, 0, none⟩)) from (by kernel_rfl)) (by kernel_rfl) ?_
          refine WA_load_own (t := 32) (x := (.tmp 9)) 1 36 (.slice a4 (List.length o1.2.2) c4) (by kernel_rfl) rfl (by kernel_rfl) (.head _) (QP_then QP_body) (fun _ h => h.2.2.1) (show evL _ _ = some (.pointer (some ⟨b4, 0, none⟩)) from (by kernel_rfl)) (by kernel_rfl) ?_
          have st := st.front2
          refine WA_one 2 (by kernel_rfl) (One_store (t := 24) (x := (.tmp 4)) (y := (.tmp 35)) (v := .agg #[.slice a3 (List.length o1.1) c3]) (c' := #[.slice a3 (List.length o1.1) c3]) (by kernel_rfl) (show evL _ _ = some (.pointer (some ⟨b3, 0, none⟩)) from (by kernel_rfl)) (show evL _ _ = some (.agg #[.slice a3 (List.length o1.1) c3]) from (by kernel_rfl)) st (by kernel_rfl) (by kernel_rfl) ?_)
          clear st
          intro w32 st
          refine ⟨⟨.inr ⟨Inv.anti st.inv hmS, Piece.holds_anti st.tail.head hmS, Piece.holds_anti st.tail.tail.head hmS, trivial⟩, trivial⟩, ?_⟩
          refine WA_pure 3 5 (.slice a4 (List.length o1.2.2) c4) (by kernel_rfl) rfl (by kernel_rfl) (.head _) (QP_then QP_body) ?_
          refine WA_pure 4 6 (.int .i64 0) (by kernel_rfl) rfl (by kernel_rfl) (.head _) (QP_then QP_body) ?_
          refine WA_done (by kernel_rfl) ?_
          refine X_then ?_
          refine W_ret ?_
          obtain rfl := Option.some.inj hr
          refine X_ret [.cell 4 24, .tmp 5, .tmp 6] [.agg #[.slice a3 (List.length o1.1) c3], .slice a4 (List.length o1.2.2) c4, .int .i64 0] rfl (ResAll.cons (ResAt.blk (v := .agg #[.slice a3 (List.length o1.1) c3]) (o := 0) (by kernel_rfl) st.head (by kernel_rfl)) (ResAll.cons (ResAt.tmp (by kernel_rfl)) (ResAll.cons (ResAt.tmp (by kernel_rfl)) ResAll.nil))) ?_
          have st := st.tail
          have st := st.tail
          have st := st.tail
          have st := st.front1
          have st := st.front1
          exact ⟨a3, c3, a4, c4, m5, rfl, hm, st, r3, r4⟩
      · clear hrKu1
        refine W_calls Go.Proofs.Try.func66 rfl Go.Proofs.Try.ntmps66 [(0, .agg #[.slice a1 (List.length p0) c1]), (1, .slice a2 (List.length p1) c2), (2, .func (.func 67) #[] #[.pointer (some ⟨b4, 0, none⟩)])] (by kernel_rfl) rfl ?_
        refine W_seq ?_
        refine W_region ?_
        refine WO_one rfl (One_box (d := 3) (e := 24) (x := (.tmp 0)) (.agg #[.slice a1 (List.length p0) c1]) (by kernel_rfl) rfl (by kernel_rfl) st ?_)
        clear st
        intro b5 m6 w10 hle5 st hb3
        have hm := Mem.le_trans hm hle5
        have r1 := r1.mono hle5
        have r2 := r2.mono hle5
        have hb1 := hb1.mono hle5
        have hb2 := hb2.mono hle5
        refine WO_one rfl (One_alloc (d := 6) (e := 24) (.agg #[.slice none 0 0]) (by kernel_rfl) rfl (by kernel_rfl) st ?_)
        clear st
        intro b6 w11 st
        refine WO_seg 1 [] (by kernel_rfl) (by kernel_rfl) ?_
        refine WO_end rfl ?_
        refine X_then ?_
        refine W_seq ?_
        refine W_region ?_
        refine WO_one rfl (One_load_row (d := 16) (t := 24) (x := (.tmp 3)) (.agg #[.slice a1 (List.length p0) c1]) (by kernel_rfl) rfl (show evL _ _ = some (.pointer (some ⟨b5, 0, none⟩)) from (by kernel_rfl)) st hb3 (by kernel_rfl) ?_)
        replace hr := bindS hr
        obtain ⟨y3, hx3, hr⟩ := hr
        refine WO_one rfl (One_fn 17 62 #[.agg #[.slice a1 (List.length p0) c1]] (by kernel_rfl) rfl ?_)
        refine (contents_numbers_ok st r1 hx3).mono ?_
        clear st
        rintro _ w12 ⟨q1, es1, ck1, m7, rfl, hle6, st, r5⟩
        refine ⟨_, rfl, ?_⟩
        have hm := Mem.le_trans hm hle6
        have r2 := r2.mono hle6
        have hb3 := hb3.mono hle6
        have r1 := r1.mono hle6
        have hb1 := hb1.mono hle6
        have hb2 := hb2.mono hle6
        refine WO_seg 5 [(8, .map q1)] (by kernel_rfl) (by kernel_rfl) ?_
        refine WO_end rfl ?_
        refine X_then ?_
        refine W_seq ?_
        refine W_region ?_
        refine WO_seg 1 [(20, .pointer (some ⟨b5, 0, none⟩))] (by kernel_rfl) (by kernel_rfl) ?_
        refine WO_one rfl (One_load_row (d := 21) (t := 22) (x := (.tmp 20)) (.slice a1 (List.length p0) c1) (by kernel_rfl) rfl (show evL _ _ = some (.pointer (some ⟨b5, 0, none⟩)) from (by kernel_rfl)) st hb3 (by kernel_rfl) ?_)
        replace hr := bindS hr
        obtain ⟨y4, hx4, hr⟩ := hr
        refine WO_one rfl (One_fn 22 71 #[.slice a1 (List.length p0) c1] (by kernel_rfl) rfl ?_)
        refine (slices_Clone_string_string_ok st r1 hx4).mono ?_
        clear st
        rintro _ w13 ⟨a5, c5, m8, rfl, hle7, st, r6⟩
        refine ⟨_, rfl, ?_⟩
        have hm := Mem.le_trans hm hle7
        have r2 := r2.mono hle7
        have hb3 := hb3.mono hle7
        have r1 := r1.mono hle7
        have hb1 := hb1.mono hle7
        have hb2 := hb2.mono hle7
        have r5 := r5.mono hle7
        refine WO_seg 1 [(23, .agg #[.slice a5 (List.length y4) c5])] (by kernel_rfl) (by kernel_rfl) ?_
        refine WO_one rfl (One_alloc (d := 10) (e := 24) (.agg #[.slice none 0 0]) (by kernel_rfl) rfl (by kernel_rfl) st ?_)
        clear st
        intro b7 w14 st
        refine WO_one rfl (One_store (t := 24) (x := (.tmp 10)) (y := (.tmp 23)) (v := .agg #[.slice a5 (List.length y4) c5]) (c' := #[.slice a5 (List.length y4) c5]) (by kernel_rfl) (show evL _ _ = some (.pointer (some ⟨b7, 0, none⟩)) from (by kernel_rfl)) (show evL _ _ = some (.agg #[.slice a5 (List.length y4) c5]) from (by kernel_rfl)) st (by kernel_rfl) (by kernel_rfl) ?_)
        clear st
        intro w15 st
        refine WO_end rfl ?_
        refine X_then ?_
        refine W_seq ?_
        refine W_seq ?_
        refine W_region ?_
        refine WO_seg 3 [(24, .slice a2 (List.length p1) c2), (25, .int .i64 (List.length p1 : Int)), (26, .int .i64 0)] (by kernel_rfl) (by kernel_rfl) ?_
        refine WO_end rfl ?_
        refine X_then ?_
        refine W_block ?_
        replace hr := bindS hr
        obtain ⟨out1, hr, hrKu2⟩ := hr
        refine W_cut (.exit 0) (fun L' w' => ∃ (o2 : List (ByteArray) × List (Int) × (Option (List (ByteArray × Int)))) (a6 : Option Addr) (c6 : Nat) (a7 : Option Addr) (c7 : Nat) (es2 : Array MapEntry) (ck2 : Nat) (m9 : Mem), (.inl o2) = out1 ∧ L' = [(6, .pointer (some ⟨b6, 0, none⟩)), (10, .pointer (some ⟨b7, 0, none⟩))] ∧ m.le m9 ∧ St m9 (.blk b7 (.cells #[.slice a6 (List.length o2.1) c6] 24 (0, 0)) :: .blk b6 (.cells #[.slice none (List.length ([] : List (ByteArray))) 0] 24 (0, 0)) :: .blk b4 (.cells #[.slice a7 (List.length o2.2.1) c7] 32 (0, 0)) :: .blk b3 (.cells #[.slice none (List.length ([] : List (ByteArray))) 0] 24 (0, 0)) :: mpiece q1 es2 ck2 :: .room a6 (List.length o2.1) c6 9 1 :: .room a7 (List.length o2.2.1) c7 3 1 :: own) w' ∧ MRow m9 b1 0 [.slice a1 (List.length p0) c1] ∧ RepS cStr m9 a1 c1 p0 ∧ MRow m9 b2 0 [.slice a2 (List.length p1) c2] ∧ RepS cStr m9 a2 c2 p1 ∧ RepS cStr m9 a6 c6 o2.1 ∧ RepS (cInt .i64) m9 a7 c7 o2.2.1 ∧ MapQ (fun s : ByteArray => Value.string s) (cInt .i64) false m9 q1 es2 o2.2.2) ?_ ?_
        · clear hr st
          rintro _ w16 ⟨o2, a6, c6, a7, c7, es2, ck2, m9, rfl, rfl, hm, st, hb1, r1, hb2, r2, r7, r8, r9⟩
          have hr := hrKu2
          clear hrKu2
          dsimp only at hr
          refine X_block_eq ?_
          refine X_then ?_
          refine W_seq ?_
          refine W_region ?_
          refine WO_one rfl (One_load_own (d := 59) (t := 24) (x := (.tmp 10)) (.agg #[.slice a6 (List.length o2.1) c6]) (by kernel_rfl) rfl (show evL _ _ = some (.pointer (some ⟨b7, 0, none⟩)) from (by kernel_rfl)) st.head (by kernel_rfl) ?_)
          have st := st.front1
          refine WO_one rfl (One_store (t := 24) (x := (.tmp 6)) (y := (.tmp 59)) (v := .agg #[.slice a6 (List.length o2.1) c6]) (c' := #[.slice a6 (List.length o2.1) c6]) (by kernel_rfl) (show evL _ _ = some (.pointer (some ⟨b6, 0, none⟩)) from (by kernel_rfl)) (show evL _ _ = some (.agg #[.slice a6 (List.length o2.1) c6]) from (by kernel_rfl)) st (by kernel_rfl) (by kernel_rfl) ?_)
          clear st
          intro w27 st
          refine WO_seg 1 [(7, .bool true)] (by kernel_rfl) (by kernel_rfl) ?_
          refine WO_end rfl ?_
          refine X_then ?_
          refine W_ret ?_
          obtain rfl := Option.some.inj hr
          refine X_ret [.cell 6 24, .tmp 7] [.agg #[.slice a6 (List.length o2.1) c6], .bool true] rfl (ResAll.cons (ResAt.blk (v := .agg #[.slice a6 (List.length o2.1) c6]) (o := 0) (by kernel_rfl) st.head (by kernel_rfl)) (ResAll.cons (ResAt.tmp (by kernel_rfl)) ResAll.nil)) ?_
          have st := st.tail
          have st := st.tail
          have st := st.front2
          have st := st.tail
          have st := st.front3
          have st := st.front3
          have st := st.front3
          have st := st.front3
          exact ⟨_, rfl, ⟨a6, c6, a7, c7, m9, rfl, hm, st, r7, hb1, r1, hb2, r2, r8⟩⟩
        intro K0_u2
        have st := st.nilroom 3 1
        have st := st.front2
        have st := st.front3
        have st := st.front6
        have st := st.front6
        have st := st.front6
        have st := st.front6
        refine W_env _ (by kernel_rfl) (W_loop (fun k1 L' w' => ∃ (s1 : Int × List (ByteArray) × List (Int) × (Option (List (ByteArray × Int)))) (a8 : Option Addr) (c8 : Nat) (a9 : Option Addr) (c9 : Nat) (es3 : Array MapEntry) (ck3 : Nat) (m10 : Mem), loopM (contents_Merge_L1 N p1) k1 s1 = some out1 ∧ L' = [(2, .func (.func 67) #[] #[.pointer (some ⟨b4, 0, none⟩)]), (6, .pointer (some ⟨b6, 0, none⟩)), (8, .map q1), (10, .pointer (some ⟨b7, 0, none⟩)), (24, .slice a2 (List.length p1) c2), (25, .int .i64 (List.length p1 : Int)), (26, .int .i64 s1.1)] ∧ m.le m10 ∧ St m10 (.blk b7 (.cells #[.slice a8 (List.length s1.2.1) c8] 24 (0, 0)) :: .blk b6 (.cells #[.slice none (List.length ([] : List (ByteArray))) 0] 24 (0, 0)) :: .blk b4 (.cells #[.slice a9 (List.length s1.2.2.1) c9] 32 (0, 0)) :: .blk b3 (.cells #[.slice none (List.length ([] : List (ByteArray))) 0] 24 (0, 0)) :: mpiece q1 es3 ck3 :: .room a8 (List.length s1.2.1) c8 9 1 :: .room a9 (List.length s1.2.2.1) c9 3 1 :: own) w' ∧ RepS cStr m10 a2 c2 p1 ∧ MRow m10 b1 0 [.slice a1 (List.length p0) c1] ∧ RepS cStr m10 a1 c1 p0 ∧ MRow m10 b2 0 [.slice a2 (List.length p1) c2] ∧ RepS cStr m10 a8 c8 s1.2.1 ∧ RepS (cInt .i64) m10 a9 c9 s1.2.2.1 ∧ MapQ (fun s : ByteArray => Value.string s) (cInt .i64) false m10 q1 es3 s1.2.2.2) N ⟨(0, y4, ([] : List (Int)), y3.1), a5, c5, none, 0, es1, ck1, m8, hr, rfl, hm, st, r2, hb1, r1, hb2, r6, (RepS.nil _ _), r5⟩ ?_)
        clear st hr
        rintro k1 _ w17 ⟨s1, a8, c8, a9, c9, es3, ck3, m10, hL, rfl, hm, st, r2, hb1, r1, hb2, r10, r11, r12⟩
        rcases k1 with _ | k1
        · exact loopM_zero hL
        · obtain ⟨qu2, hr, hSu2, hBu2⟩ := loopM_succ hL
          clear hL
          unfold contents_Merge_L1 at hr
          refine W_seq ?_
          refine W_region ?_
          refine WO_seg 1 [(27, .bool (decide (s1.1 < (List.length p1 : Int))))] (by kernel_rfl) (by kernel_rfl) ?_
          refine WO_end rfl ?_
          refine X_then ?_
          refine W_seq ?_
          refine W_cond (decide (s1.1 < (List.length p1 : Int))) (by kernel_rfl) ?_ ?_
          · intro hc
            rw [if_pos hc] at hr
            refine W_skip ?_
            refine X_then ?_
            refine W_seq ?_
            refine W_block ?_
            refine W_seq ?_
            refine W_region ?_
            replace hr := bindS hr
            obtain ⟨x1, hx5, hr⟩ := hr
            refine WO_one rfl (One_index (d := 28) (t := 22) (e := 9) (x := (.tmp 24)) (y := (.tmp 26)) cStr (by kernel_rfl) rfl (show evL _ _ = some (.slice a2 (List.length p1) c2) from (by kernel_rfl)) (show evL _ _ = some (.int .i64 s1.1) from (by kernel_rfl)) (by kernel_rfl) r2 hx5 ?_)
            rintro b8 f1 cs1 rfl hq1
            refine WO_one rfl (One_load_row (d := 29) (t := 9) (x := (.tmp 28)) (.string x1) (by kernel_rfl) rfl (show evL _ _ = some (.pointer (some ⟨b8, f1, none⟩)) from (by kernel_rfl)) st hq1 (by kernel_rfl) ?_)
            refine WO_seg 1 [(12, .string x1)] (by kernel_rfl) (by kernel_rfl) ?_
            refine WO_end rfl ?_
            refine X_then ?_
            refine W_seq ?_
            refine W_region ?_
            refine WO_seg 2 [(31, .map q1), (32, .string x1)] (by kernel_rfl) (by kernel_rfl) ?_
            refine WO_one rfl (One_lookup (ek := (fun s : ByteArray => Value.string s)) (c := (cInt .i64)) (agg := false) (k := x1) (zx := 0) (zcs := [.int .i64 0]) (z := (.int .i64 0)) (kt := 9) (et := 3) (d := 33) (t := 92) (x := (.tmp 31)) (y := (.tmp 32)) (ok := true) (by kernel_rfl) rfl (show evL _ _ = some (.map q1) from (by kernel_rfl)) (show evL _ _ = some (.string x1) from (by kernel_rfl)) (by kernel_rfl) (keyStr (by kernel_rfl)) st.tail.tail.tail.tail.head r12 rfl rfl ?_)
            rintro cs2 rfl
            refine WO_seg 5 [(13, .int .i64 ((mgetQ s1.2.2.2 x1).getD 0)), (14, .bool ((mgetQ s1.2.2.2 x1).isSome))] (by kernel_rfl) (by kernel_rfl) ?_
            refine WO_end rfl ?_
            refine X_then ?_
            refine W_seq ?_
            refine W_seq ?_
            refine W_region ?_
            refine WO_seg 2 [(37, .bool (!((mgetQ s1.2.2.2 x1).isSome)))] (by kernel_rfl) (by kernel_rfl) ?_
            refine WO_end rfl ?_
            refine X_then ?_
            replace hr := bindS hr
            obtain ⟨qu3, hr, hrKu3⟩ := hr
            refine W_cut .normal (fun L' w' => ∃ (o3 : Int × List (ByteArray) × (Option (List (ByteArray × Int)))) (a10 : Option Addr) (c10 : Nat) (es4 : Array MapEntry) (ck4 : Nat) (m11 : Mem), (.inl o3 : (Int × List (ByteArray) × (Option (List (ByteArray × Int)))) ⊕ ((Int × List (ByteArray) × List (Int) × (Option (List (ByteArray × Int)))) ⊕ ((List (ByteArray) × List (Int) × (Option (List (ByteArray × Int)))) ⊕ (List (ByteArray) × Bool × List (Int))))) = qu3 ∧ L' = [(2, .func (.func 67) #[] #[.pointer (some ⟨b4, 0, none⟩)]), (6, .pointer (some ⟨b6, 0, none⟩)), (8, .map q1), (10, .pointer (some ⟨b7, 0, none⟩)), (13, .int .i64 o3.1), (24, .slice a2 (List.length p1) c2), (25, .int .i64 (List.length p1 : Int)), (26, .int .i64 s1.1)] ∧ m.le m11 ∧ St m11 (.blk b7 (.cells #[.slice a10 (List.length o3.2.1) c10] 24 (0, 0)) :: .blk b6 (.cells #[.slice none (List.length ([] : List (ByteArray))) 0] 24 (0, 0)) :: .blk b4 (.cells #[.slice a9 (List.length s1.2.2.1) c9] 32 (0, 0)) :: .blk b3 (.cells #[.slice none (List.length ([] : List (ByteArray))) 0] 24 (0, 0)) :: mpiece q1 es4 ck4 :: .room a9 (List.length s1.2.2.1) c9 3 1 :: .room a10 (List.length o3.2.1) c10 9 1 :: own) w' ∧ RepS cStr m11 a2 c2 p1 ∧ MRow m11 b1 0 [.slice a1 (List.length p0) c1] ∧ RepS cStr m11 a1 c1 p0 ∧ MRow m11 b2 0 [.slice a2 (List.length p1) c2] ∧ RepS cStr m11 a10 c10 o3.2.1 ∧ RepS (cInt .i64) m11 a9 c9 s1.2.2.1 ∧ MapQ (fun s : ByteArray => Value.string s) (cInt .i64) false m11 q1 es4 o3.2.2) ?_ ?_
            · clear hr st
              rintro _ w18 ⟨o3, a10, c10, es4, ck4, m11, rfl, rfl, hm, st, r2, hb1, r1, hb2, r13, r11, r14⟩
              have hr := hrKu3
              clear hrKu3
              dsimp only at hr
              refine X_then ?_
              refine W_region ?_
              refine WO_seg 2 [(55, .func (.func 67) #[] #[.pointer (some ⟨b4, 0, none⟩)]), (56, .int .i64 o3.1)] (by kernel_rfl) (by kernel_rfl) ?_
              refine WO_one rfl (One_fn 57 67 #[.int .i64 o3.1, .pointer (some ⟨b4, 0, none⟩)] (by kernel_rfl) rfl ?_)
              refine W_calls Go.Proofs.Try.func67 rfl Go.Proofs.Try.ntmps67 [(0, .int .i64 o3.1), (1, .pointer (some ⟨b4, 0, none⟩))] (by kernel_rfl) rfl ?_
              refine W_region ?_
              refine WO_one rfl (One_load_own (d := 3) (t := 32) (x := (.tmp 1)) (.slice a9 (List.length s1.2.2.1) c9) (by kernel_rfl) rfl (show evL _ _ = some (.pointer (some ⟨b4, 0, none⟩)) from (by kernel_rfl)) st.tail.tail.head (by kernel_rfl) ?_)
              refine WO_seg 1 [(4, .int .i64 o3.1)] (by kernel_rfl) (by kernel_rfl) ?_
              refine WO_one rfl (One_buildSlice (d := 5) (t := 32) (e := 3) (len := 1) (parts := #[(0, (.tmp 4))]) (cInt .i64) (xs := [o3.1]) [.int .i64 o3.1] (by kernel_rfl) rfl (fun _ => buildCells_run (by kernel_rfl) _) rfl rfl st ⟨[.int .i64 o3.1], _, rfl, rfl, rfl⟩ ?_)
              clear st
              intro b10 m14 w24 hle10 st r18
              have hm := Mem.le_trans hm hle10
              have r11 := r11.mono hle10
              have hb1 := hb1.mono hle10
              have r1 := r1.mono hle10
              have hb2 := hb2.mono hle10
              have r2 := r2.mono hle10
              have r13 := r13.mono hle10
              have r14 := r14.mono hle10
              have st := st.front6
              replace hr := bindS hr
              obtain ⟨l2, hx8, hr⟩ := hr
              refine WO_one rfl (One_append (d := 6) (t := 32) (u := 32) (e := 3) (by_ := 8) (x := (.tmp 3)) (y := (.tmp 5)) (cInt .i64) (by kernel_rfl) rfl (show evL _ _ = some (.slice a9 (List.length s1.2.2.1) c9) from (by kernel_rfl)) (show evL _ _ = some (.slice (some ⟨b10, 0, none⟩) (List.length ([o3.1])) 1) from (by kernel_rfl)) st (by kernel_rfl) (.inl (by kernel_rfl)) r11 r18.src hx8 ?_)
              clear st
              intro a12 c12 m15 w25 hle11 st r19
              have hm := Mem.le_trans hm hle11
              have r11 := r11.mono hle11
              have r18 := r18.mono hle11
              have hb1 := hb1.mono hle11
              have r1 := r1.mono hle11
              have hb2 := hb2.mono hle11
              have r2 := r2.mono hle11
              have r13 := r13.mono hle11
              have r14 := r14.mono hle11
              have st := st.front4
              refine WO_one rfl (One_store (t := 32) (x := (.tmp 1)) (y := (.tmp 6)) (v := .slice a12 (List.length l2) c12) (c' := #[.slice a12 (List.length l2) c12]) (by kernel_rfl) (show evL _ _ = some (.pointer (some ⟨b4, 0, none⟩)) from (by kernel_rfl)) (show evL _ _ = some (.slice a12 (List.length l2) c12) from (by kernel_rfl)) st (by kernel_rfl) (by kernel_rfl) ?_)
              clear st
              intro w26 st
              refine WO_end rfl ?_
              have st := st.front2
              have st := st.tail
              refine X_fall [] [] rfl ResAll.nil ?_
              refine ⟨_, rfl, ?_⟩
              refine WO_end rfl ?_
              refine X_block ?_
              refine X_then ?_
              refine W_region ?_
              refine WO_seg 2 [(26, .int .i64 (IntKind.wrap .i64 (s1.1 + 1)))] (by kernel_rfl) (by kernel_rfl) ?_
              refine WO_end rfl ?_
              obtain rfl := Option.some.inj hr
              have hL := hSu2 _ rfl
              have st := st.front1
              have st := st.front6
              have st := st.front6
              have st := st.front6
              have st := st.front4
              have st := st.front6
              have st := st.front6
              exact X_env _ (by kernel_rfl) (X_round k1 (Nat.lt_succ_self _) ⟨(IntKind.wrap .i64 (s1.1 + 1), o3.2.1, l2, o3.2.2), a10, c10, a12, c12, es4, ck4, m15, hL, rfl, hm, st, r2, hb1, r1, hb2, r13, r19, r14⟩)
            · intro Ku3
              refine W_cond (!((mgetQ s1.2.2.2 x1).isSome)) (by kernel_rfl) ?_ ?_
              · intro hc
                rw [if_pos hc] at hr
                refine W_seq ?_
                refine W_seq ?_
                refine W_region ?_
                refine WO_seg 1 [(38, .pointer (some ⟨b7, 0, none⟩))] (by kernel_rfl) (by kernel_rfl) ?_
                refine WO_one rfl (One_load_own (d := 39) (t := 22) (x := (.tmp 38)) (.slice a8 (List.length s1.2.1) c8) (by kernel_rfl) rfl (show evL _ _ = some (.pointer (some ⟨b7, 0, none⟩)) from (by kernel_rfl)) st.head (by kernel_rfl) ?_)
                refine WO_seg 2 [(41, .bool ((List.length s1.2.1 : Int) == 4096))] (by kernel_rfl) (by kernel_rfl) ?_
                refine WO_end rfl ?_
                refine X_then ?_
                refine W_cond ((List.length s1.2.1 : Int) == 4096) (by kernel_rfl) ?_ ?_
                · intro hc
                  rw [if_pos hc] at hr
                  refine W_seq ?_
                  refine W_region ?_
                  refine WO_seg 1 [(42, .agg #[.slice none (List.length ([] : List (ByteArray))) 0])] (by kernel_rfl) (by kernel_rfl) ?_
                  have st := st.front1
                  refine WO_one rfl (One_store (t := 24) (x := (.tmp 6)) (y := (.tmp 42)) (v := .agg #[.slice none (List.length ([] : List (ByteArray))) 0]) (c' := #[.slice none (List.length ([] : List (ByteArray))) 0]) (by kernel_rfl) (show evL _ _ = some (.pointer (some ⟨b6, 0, none⟩)) from (by kernel_rfl)) (show evL _ _ = some (.agg #[.slice none (List.length ([] : List (ByteArray))) 0]) from (by kernel_rfl)) st (by kernel_rfl) (by kernel_rfl) ?_)
                  clear st
                  intro w19 st
                  refine WO_seg 1 [(7, .bool false)] (by kernel_rfl) (by kernel_rfl) ?_
                  refine WO_end rfl ?_
                  refine X_then ?_
                  refine W_ret ?_
                  refine X_then_ret ?_
                  replace hr := Option.map_eq_some_iff.1 hr
                  obtain ⟨zu3, hr, hzu3⟩ := hr
                  subst hzu3
                  have hrKu3 := Option.some.inj hrKu3
                  subst hrKu3
                  refine X_then_ret ?_
                  refine X_block_ret ?_
                  refine X_then_ret ?_
                  obtain rfl := Option.some.inj hr
                  have ho := hBu2 _ rfl
                  subst ho
                  have hr := hrKu2
                  dsimp only at hr
                  refine X_then_ret ?_
                  refine X_block_ret ?_
                  refine X_then_ret ?_
                  obtain rfl := Option.some.inj hr
                  refine X_ret [.cell 6 24, .tmp 7] [.agg #[.slice none (List.length ([] : List (ByteArray))) 0], .bool false] rfl (ResAll.cons (ResAt.blk (v := .agg #[.slice none (List.length ([] : List (ByteArray))) 0]) (o := 0) (by kernel_rfl) st.head (by kernel_rfl)) (ResAll.cons (ResAt.tmp (by kernel_rfl)) ResAll.nil)) ?_
                  have st := st.nilroom 9 1
                  have st := st.front1
                  have st := st.tail
                  have st := st.front1
                  have st := st.tail
                  have st := st.front3
                  have st := st.tail
                  have st := st.front3
                  have st := st.tail
                  have st := st.front3
                  have st := st.front1
                  have st := st.front3
                  have st := st.front3
                  exact ⟨_, rfl, ⟨none, 0, a9, c9, m10, rfl, hm, st, (RepS.nil _ _), hb1, r1, hb2, r2, r11⟩⟩
                · intro hc
                  rw [if_neg (not_true hc)] at hr
                  refine W_skip ?_
                  refine X_then ?_
                  refine W_seq ?_
                  refine W_region ?_
                  refine WO_seg 1 [(43, .pointer (some ⟨b7, 0, none⟩))] (by kernel_rfl) (by kernel_rfl) ?_
                  refine WO_one rfl (One_load_own (d := 44) (t := 22) (x := (.tmp 43)) (.slice a8 (List.length s1.2.1) c8) (by kernel_rfl) rfl (show evL _ _ = some (.pointer (some ⟨b7, 0, none⟩)) from (by kernel_rfl)) st.head (by kernel_rfl) ?_)
                  refine WO_seg 2 [(13, .int .i64 (List.length s1.2.1 : Int))] (by kernel_rfl) (by kernel_rfl) ?_
                  refine WO_end rfl ?_
                  refine X_then ?_
                  refine W_seq ?_
                  refine W_region ?_
                  refine WO_seg 3 [(46, .map q1), (47, .string x1), (48, .int .i64 (List.length s1.2.1 : Int))] (by kernel_rfl) (by kernel_rfl) ?_
                  have st := st.front4
                  replace hr := bindS hr
                  obtain ⟨mp1, hx6, hr⟩ := hr
                  refine WO_one rfl (One_mapUpdate (ek := (fun s : ByteArray => Value.string s)) (c := (cInt .i64)) (agg := false) (k := x1) (yv := (List.length s1.2.1 : Int)) (cs := [.int .i64 (List.length s1.2.1 : Int)]) (z := (.int .i64 0)) (v := (.int .i64 (List.length s1.2.1 : Int))) (kt := 9) (et := 3) (t := 92) (x := (.tmp 46)) (y := (.tmp 47)) (u := (.tmp 48)) (by kernel_rfl) (show evL _ _ = some (.map q1) from (by kernel_rfl)) (show evL _ _ = some (.string x1) from (by kernel_rfl)) (show evL _ _ = some (.int .i64 (List.length s1.2.1 : Int)) from (by kernel_rfl)) (by kernel_rfl) (keyStr (by kernel_rfl)) st r12 rfl rfl hx6 ?_)
                  clear st
                  intro es5 ck5 w20 st r15
                  refine WO_end rfl ?_
                  refine X_then ?_
                  refine W_region ?_
                  refine WO_seg 1 [(49, .pointer (some ⟨b7, 0, none⟩))] (by kernel_rfl) (by kernel_rfl) ?_
                  refine WO_one rfl (One_load_own (d := 50) (t := 22) (x := (.tmp 49)) (.slice a8 (List.length s1.2.1) c8) (by kernel_rfl) rfl (show evL _ _ = some (.pointer (some ⟨b7, 0, none⟩)) from (by kernel_rfl)) st.tail.head (by kernel_rfl) ?_)
                  refine WO_seg 1 [(51, .string x1)] (by kernel_rfl) (by kernel_rfl) ?_
                  refine WO_one rfl (One_buildSlice (d := 52) (t := 22) (e := 9) (len := 1) (parts := #[(0, (.tmp 51))]) cStr (xs := [x1]) [.string x1] (by kernel_rfl) rfl (fun _ => buildCells_run (by kernel_rfl) _) rfl rfl st ⟨[.string x1], _, rfl, rfl, rfl⟩ ?_)
                  clear st
                  intro b9 m12 w21 hle8 st r16
                  have hm := Mem.le_trans hm hle8
                  have r2 := r2.mono hle8
                  have r10 := r10.mono hle8
                  have hb1 := hb1.mono hle8
                  have r1 := r1.mono hle8
                  have hb2 := hb2.mono hle8
                  have r15 := r15.mono hle8
                  have r11 := r11.mono hle8
                  have st := st.front6
                  replace hr := bindS hr
                  obtain ⟨l1, hx7, hr⟩ := hr
                  refine WO_one rfl (One_append (d := 53) (t := 22) (u := 22) (e := 9) (by_ := 16) (x := (.tmp 50)) (y := (.tmp 52)) cStr (by kernel_rfl) rfl (show evL _ _ = some (.slice a8 (List.length s1.2.1) c8) from (by kernel_rfl)) (show evL _ _ = some (.slice (some ⟨b9, 0, none⟩) (List.length ([x1])) 1) from (by kernel_rfl)) st (by kernel_rfl) (.inl (by kernel_rfl)) r10 r16.src hx7 ?_)
                  clear st
                  intro a11 c11 m13 w22 hle9 st r17
                  have hm := Mem.le_trans hm hle9
                  have r2 := r2.mono hle9
                  have r10 := r10.mono hle9
                  have r16 := r16.mono hle9
                  have hb1 := hb1.mono hle9
                  have r1 := r1.mono hle9
                  have hb2 := hb2.mono hle9
                  have r15 := r15.mono hle9
                  have r11 := r11.mono hle9
                  refine WO_seg 1 [(54, .pointer (some ⟨b7, 0, none⟩))] (by kernel_rfl) (by kernel_rfl) ?_
                  have st := st.front3
                  refine WO_one rfl (One_store (t := 22) (x := (.tmp 54)) (y := (.tmp 53)) (v := .slice a11 (List.length l1) c11) (c' := #[.slice a11 (List.length l1) c11]) (by kernel_rfl) (show evL _ _ = some (.pointer (some ⟨b7, 0, none⟩)) from (by kernel_rfl)) (show evL _ _ = some (.slice a11 (List.length l1) c11) from (by kernel_rfl)) st (by kernel_rfl) (by kernel_rfl) ?_)
                  clear st
                  intro w23 st
                  refine WO_end rfl ?_
                  have st := st.front2
                  have st := st.tail
                  have hqu3 := Option.some.inj hr
                  have st := st.front1
                  have st := st.front6
                  have st := st.front3
                  have st := st.front6
                  have st := st.front6
                  have st := st.front6
                  have st := st.front6
                  exact X_env _ (by kernel_rfl) (Ku3 _ _ ⟨((List.length s1.2.1 : Int), l1, mp1), a11, c11, es5, ck5, m13, hqu3, rfl, hm, st, r2, hb1, r1, hb2, r17, r11, r15⟩)
              · intro hc
                rw [if_neg (not_true hc)] at hr
                refine W_skip ?_
                have hqu3 := Option.some.inj hr
                have st := st.front5
                have st := st.front6
                have st := st.front6
                have st := st.front6
                have st := st.front6
                have st := st.front6
                have st := st.front6
                exact X_env _ (by kernel_rfl) (Ku3 _ _ ⟨(((mgetQ s1.2.2.2 x1).getD 0), s1.2.1, s1.2.2.2), a8, c8, es3, ck3, m10, hqu3, rfl, hm, st, r2, hb1, r1, hb2, r10, r11, r12⟩)
          · intro hc
            rw [if_neg (not_true hc)] at hr
            refine W_exit ?_
            refine X_then_exit ?_
            obtain rfl := Option.some.inj hr
            have ho := hBu2 _ rfl
            have st := st.front6
            have st := st.front6
            have st := st.front6
            have st := st.front6
            have st := st.front6
            have st := st.front6
            have st := st.front6
            refine X_then_exit ?_
            exact X_env _ (by kernel_rfl) (K0_u2 _ _ ⟨(s1.2.1, s1.2.2.1, s1.2.2.2), a8, c8, a9, c9, es3, ck3, m10, ho, rfl, hm, st, hb1, r1, hb2, r2, r10, r11, r12⟩)

def contents_Put (N : Nat) (p0 : List ByteArray) (p1 : ByteArray) : Option (List ByteArray × Int × Int) :=
  (contents_Merge N p0 ([p1])).bind fun y1 => if (y1.2.2 != 0) = true then (some (([] : List (ByteArray)), 0, y1.2.2)) else ((idx y1.2.1 0).bind fun x1 => some (y1.1, x1, 0))

set_option maxHeartbeats 4000000 in
set_option maxRecDepth 100000 in
theorem contents_Put_ok {N : Nat} {m : Mem} {own : List Piece} {w : World} {p0 : List ByteArray} {p1 : ByteArray} {a1 : Option Addr} {c1 : Nat} {r : List ByteArray × Int × Int} (st : St m (own) w) (r1 : RepS cStr m a1 c1 p0) (hr : contents_Put N p0 p1 = some r) : Calls Go.Proofs.Try.prog 13 #[.agg #[.slice a1 (List.length p0) c1], .string p1] w fun e w' => ∃ (ra1 : Option Addr) (rc1 : Nat) (m' : Mem), e = .returned (.tuple #[.agg #[.slice ra1 (List.length r.1) rc1], .int .i64 r.2.1, .int .i64 r.2.2]) ∧ m.le m' ∧ St m' (.room ra1 (List.length r.1) rc1 9 1 :: own) w' ∧ RepS cStr m' ra1 rc1 r.1 := by
  unfold contents_Put at hr
  have hm := m.le_refl
  refine W_calls Go.Proofs.Try.func13 rfl Go.Proofs.Try.ntmps13 [(0, .agg #[.slice a1 (List.length p0) c1]), (1, .string p1)] (by kernel_rfl) rfl ?_
  refine W_seq ?_
  refine W_region ?_
  refine WO_one rfl (One_box (d := 2) (e := 24) (x := (.tmp 0)) (.agg #[.slice a1 (List.length p0) c1]) (by kernel_rfl) rfl (by kernel_rfl) st ?_)
  clear st
  intro b1 m1 w1 hle1 st hb1
  have hm := Mem.le_trans hm hle1
  have r1 := r1.mono hle1
  refine WO_one rfl (One_alloc (d := 4) (e := 24) (.agg #[.slice none 0 0]) (by kernel_rfl) rfl (by kernel_rfl) st ?_)
  clear st
  intro b2 w2 st
  refine WO_seg 2 [] (by kernel_rfl) (by kernel_rfl) ?_
  refine WO_end rfl ?_
  refine X_then ?_
  refine W_seq ?_
  refine W_region ?_
  refine WO_one rfl (One_load_row (d := 11) (t := 24) (x := (.tmp 2)) (.agg #[.slice a1 (List.length p0) c1]) (by kernel_rfl) rfl (show evL _ _ = some (.pointer (some ⟨b1, 0, none⟩)) from (by kernel_rfl)) st hb1 (by kernel_rfl) ?_)
  refine WO_seg 1 [(12, .string p1)] (by kernel_rfl) (by kernel_rfl) ?_
  refine WO_one rfl (One_buildSlice (d := 13) (t := 22) (e := 9) (len := 1) (parts := #[(0, (.tmp 12))]) cStr (xs := [p1]) [.string p1] (by kernel_rfl) rfl (fun _ => buildCells_run (by kernel_rfl) _) rfl rfl st ⟨[.string p1], _, rfl, rfl, rfl⟩ ?_)
  clear st
  intro b3 m2 w3 hle2 st r2
  have hm := Mem.le_trans hm hle2
  have hb1 := hb1.mono hle2
  have r1 := r1.mono hle2
  refine WO_seg 1 [(14, .agg #[.slice (some ⟨b3, 0, none⟩) (List.length ([p1])) 1])] (by kernel_rfl) (by kernel_rfl) ?_
  replace hr := bindS hr
  obtain ⟨y1, hx1, hr⟩ := hr
  refine WO_one rfl (One_fn 15 29 #[.agg #[.slice a1 (List.length p0) c1], .agg #[.slice (some ⟨b3, 0, none⟩) (List.length ([p1])) 1]] (by kernel_rfl) rfl ?_)
  refine (contents_Merge_ok st r1 r2 hx1).mono ?_
  clear st
  rintro _ w4 ⟨a2, c2, a3, c3, m3, rfl, hle3, st, r3, r4⟩
  refine ⟨_, rfl, ?_⟩
  have hm := Mem.le_trans hm hle3
  have hb1 := hb1.mono hle3
  have r1 := r1.mono hle3
  have r2 := r2.mono hle3
  refine WO_seg 4 [(16, .agg #[.slice a2 (List.length y1.1) c2]), (17, .slice a3 (List.length y1.2.1) c3), (18, .int .i64 y1.2.2)] (by kernel_rfl) (by kernel_rfl) ?_
  refine WO_one rfl (One_alloc (d := 7) (e := 24) (.agg #[.slice none 0 0]) (by kernel_rfl) rfl (by kernel_rfl) st ?_)
  clear st
  intro b4 w5 st
  refine WO_one rfl (One_store (t := 24) (x := (.tmp 7)) (y := (.tmp 16)) (v := .agg #[.slice a2 (List.length y1.1) c2]) (c' := #[.slice a2 (List.length y1.1) c2]) (by kernel_rfl) (show evL _ _ = some (.pointer (some ⟨b4, 0, none⟩)) from (by kernel_rfl)) (show evL _ _ = some (.agg #[.slice a2 (List.length y1.1) c2]) from (by kernel_rfl)) st (by kernel_rfl) (by kernel_rfl) ?_)
  clear st
  intro w6 st
  refine WO_seg 2 [(8, .slice a3 (List.length y1.2.1) c3), (9, .int .i64 y1.2.2)] (by kernel_rfl) (by kernel_rfl) ?_
  refine WO_end rfl ?_
  have st := st.front3
  have st := st.tail
  refine X_then ?_
  refine W_seq ?_
  refine W_seq ?_
  refine W_region ?_
  refine WO_seg 2 [(20, .bool (y1.2.2 != 0))] (by kernel_rfl) (by kernel_rfl) ?_
  refine WO_end rfl ?_
  refine X_then ?_
  refine W_cond (y1.2.2 != 0) (by kernel_rfl) ?_ ?_
  · intro hc
    rw [if_pos hc] at hr
    refine W_seq ?_
    refine W_region ?_
    refine WO_seg 2 [(21, .agg #[.slice none (List.length ([] : List (ByteArray))) 0]), (22, .int .i64 y1.2.2)] (by kernel_rfl) (by kernel_rfl) ?_
    have st := st.front3
    refine WO_one rfl (One_store (t := 24) (x := (.tmp 4)) (y := (.tmp 21)) (v := .agg #[.slice none (List.length ([] : List (ByteArray))) 0]) (c' := #[.slice none (List.length ([] : List (ByteArray))) 0]) (by kernel_rfl) (show evL _ _ = some (.pointer (some ⟨b2, 0, none⟩)) from (by kernel_rfl)) (show evL _ _ = some (.agg #[.slice none (List.length ([] : List (ByteArray))) 0]) from (by kernel_rfl)) st (by kernel_rfl) (by kernel_rfl) ?_)
    clear st
    intro w7 st
    refine WO_seg 2 [(5, .int .i64 0), (6, .int .i64 y1.2.2)] (by kernel_rfl) (by kernel_rfl) ?_
    refine WO_end rfl ?_
    have st := st.front3
    have st := st.tail
    refine X_then ?_
    refine W_ret ?_
    refine X_then_ret ?_
    obtain rfl := Option.some.inj hr
    refine X_ret [.cell 4 24, .tmp 5, .tmp 6] [.agg #[.slice none (List.length ([] : List (ByteArray))) 0], .int .i64 0, .int .i64 y1.2.2] rfl (ResAll.cons (ResAt.blk (v := .agg #[.slice none (List.length ([] : List (ByteArray))) 0]) (o := 0) (by kernel_rfl) st.head (by kernel_rfl)) (ResAll.cons (ResAt.tmp (by kernel_rfl)) (ResAll.cons (ResAt.tmp (by kernel_rfl)) ResAll.nil))) ?_
    have st := st.nilroom 9 1
    have st := st.front1
    have st := st.tail
    have st := st.front1
    have st := st.tail
    have st := st.front1
    have st := st.tail
    exact ⟨none, 0, m3, rfl, hm, st, (RepS.nil _ _)⟩
  · intro hc
    rw [if_neg (not_true hc)] at hr
    refine W_skip ?_
    refine X_then ?_
    refine W_seq ?_
    refine W_draw [(7, fun w' => Inv m3 w' ∧ Piece.holds m3 w' (.blk b4 (.cells #[.slice a2 (List.length y1.1) c2] 24 (0, 0))) ∧ True)] (by kernel_rfl) st ?_
    clear st
    intro w8 _ st
    have hmS := m3.le_refl
    refine ⟨⟨.inr ⟨Inv.anti st.inv hmS, Piece.holds_anti st.head hmS, trivial⟩, trivial⟩, ?_⟩
    refine WA_load_own (t := 24) (x := (.tmp 7)) 0 23 (.agg #[.slice a2 (List.length y1.1) c2]) (by kernel_rfl) rfl (by kernel_rfl) (.head _) (QP_then QP_body) (fun _ h => h.2.1) (show evL _ _ = some (.pointer (some ⟨b4, 0, none⟩)) from (by kernel_rfl)) (by kernel_rfl) ?_
    refine WA_pure 1 24 (.slice a3 (List.length y1.2.1) c3) (by kernel_rfl) rfl (by kernel_rfl) (.head _) (QP_then QP_body) ?_
    replace hr := bindS hr
    obtain ⟨x1, hx2, hr⟩ := hr
    refine WA_index (t := 32) (e := 3) (x := (.tmp 24)) (y := (.const (.int .i64 0))) 2 25 (cInt .i64) (by kernel_rfl) rfl (by kernel_rfl) (.head _) (QP_then QP_body) (show evL _ _ = some (.slice a3 (List.length y1.2.1) c3) from (by kernel_rfl)) (show evL _ _ = some (.int .i64 0) from (by kernel_rfl)) (by kernel_rfl) r4 hx2 ?_
    rintro b5 f1 cs1 rfl hq1
    refine WA_load_row (t := 3) (x := (.tmp 25)) 3 26 (.int .i64 x1) (by kernel_rfl) rfl (by kernel_rfl) (.head _) (QP_then QP_body) (fun _ h => h.1) (show evL _ _ = some (.pointer (some ⟨b5, f1, none⟩)) from (by kernel_rfl)) hq1 (by kernel_rfl) ?_
    have st := st.front3
    refine WA_one 4 (by kernel_rfl) (One_store (t := 24) (x := (.tmp 4)) (y := (.tmp 23)) (v := .agg #[.slice a2 (List.length y1.1) c2]) (c' := #[.slice a2 (List.length y1.1) c2]) (by kernel_rfl) (show evL _ _ = some (.pointer (some ⟨b2, 0, none⟩)) from (by kernel_rfl)) (show evL _ _ = some (.agg #[.slice a2 (List.length y1.1) c2]) from (by kernel_rfl)) st (by kernel_rfl) (by kernel_rfl) ?_)
    clear st
    intro w9 st
    refine ⟨⟨.inr ⟨Inv.anti st.inv hmS, Piece.holds_anti st.tail.head hmS, trivial⟩, trivial⟩, ?_⟩
    refine WA_pure 5 5 (.int .i64 x1) (by kernel_rfl) rfl (by kernel_rfl) (.head _) (QP_then QP_body) ?_
    refine WA_pure 6 6 (.int .i64 0) (by kernel_rfl) rfl (by kernel_rfl) (.head _) (QP_then QP_body) ?_
    refine WA_done (by kernel_rfl) ?_
    have st := st.front3
    have st := st.tail
    refine X_then ?_
    refine W_ret ?_
    obtain rfl := Option.some.inj hr
    refine X_ret [.cell 4 24, .tmp 5, .tmp 6] [.agg #[.slice a2 (List.length y1.1) c2], .int .i64 x1, .int .i64 0] rfl (ResAll.cons (ResAt.blk (v := .agg #[.slice a2 (List.length y1.1) c2]) (o := 0) (by kernel_rfl) st.head (by kernel_rfl)) (ResAll.cons (ResAt.tmp (by kernel_rfl)) (ResAll.cons (ResAt.tmp (by kernel_rfl)) ResAll.nil))) ?_
    have st := st.tail
    have st := st.tail
    exact ⟨a2, c2, m3, rfl, hm, st, r3⟩

def contents_Get (N : Nat) (p0 : List ByteArray) (p1 : Int) : Option (ByteArray × Int) :=
  (contents_Check N p0).bind fun y1 => if (y1 != 0) = true then (some ((⟨#[]⟩ : ByteArray), y1)) else ((if (decide (p1 < 0)) = true then (some true) else (some (decide (p1 ≥ (List.length p0 : Int)))) : Option (Bool)).bind fun o1 => if o1 = true then (some ((⟨#[]⟩ : ByteArray), 20)) else ((idx p0 p1).bind fun x1 => some (x1, 0)))

set_option maxHeartbeats 4000000 in
set_option maxRecDepth 100000 in
theorem contents_Get_ok {N : Nat} {m : Mem} {own : List Piece} {w : World} {p0 : List ByteArray} {p1 : Int} {a1 : Option Addr} {c1 : Nat} {r : ByteArray × Int} (st : St m (own) w) (r1 : RepS cStr m a1 c1 p0) (hr : contents_Get N p0 p1 = some r) : Calls Go.Proofs.Try.prog 23 #[.agg #[.slice a1 (List.length p0) c1], .int .i64 p1] w fun e w' => ∃ (m' : Mem), e = .returned (.tuple #[.string r.1, .int .i64 r.2]) ∧ m.le m' ∧ St m' (own) w' := by
  unfold contents_Get at hr
  have hm := m.le_refl
  refine W_calls Go.Proofs.Try.func23 rfl Go.Proofs.Try.ntmps23 [(0, .agg #[.slice a1 (List.length p0) c1]), (1, .int .i64 p1)] (by kernel_rfl) rfl ?_
  refine W_seq ?_
  refine W_region ?_
  refine WO_one rfl (One_box (d := 2) (e := 24) (x := (.tmp 0)) (.agg #[.slice a1 (List.length p0) c1]) (by kernel_rfl) rfl (by kernel_rfl) st ?_)
  clear st
  intro b1 m1 w1 hle1 st hb1
  have hm := Mem.le_trans hm hle1
  have r1 := r1.mono hle1
  refine WO_seg 2 [] (by kernel_rfl) (by kernel_rfl) ?_
  refine WO_end rfl ?_
  refine X_then ?_
  refine W_seq ?_
  refine W_seq ?_
  refine W_region ?_
  refine WO_one rfl (One_load_row (d := 7) (t := 24) (x := (.tmp 2)) (.agg #[.slice a1 (List.length p0) c1]) (by kernel_rfl) rfl (show evL _ _ = some (.pointer (some ⟨b1, 0, none⟩)) from (by kernel_rfl)) st hb1 (by kernel_rfl) ?_)
  replace hr := bindS hr
  obtain ⟨y1, hx1, hr⟩ := hr
  refine WO_one rfl (One_fn 8 14 #[.agg #[.slice a1 (List.length p0) c1]] (by kernel_rfl) rfl ?_)
  refine (contents_Check_ok st r1 hx1).mono ?_
  clear st
  rintro _ w2 ⟨m2, rfl, hle2, st⟩
  refine ⟨_, rfl, ?_⟩
  have hm := Mem.le_trans hm hle2
  have hb1 := hb1.mono hle2
  have r1 := r1.mono hle2
  refine WO_seg 1 [(6, .int .i64 y1)] (by kernel_rfl) (by kernel_rfl) ?_
  refine WO_end rfl ?_
  refine X_then ?_
  refine W_seq ?_
  refine W_region ?_
  refine WO_seg 2 [(10, .bool (y1 != 0))] (by kernel_rfl) (by kernel_rfl) ?_
  refine WO_end rfl ?_
  refine X_then ?_
  refine W_cond (y1 != 0) (by kernel_rfl) ?_ ?_
  · intro hc
    rw [if_pos hc] at hr
    refine W_seq ?_
    refine W_region ?_
    refine WO_seg 3 [(4, .string (⟨#[]⟩ : ByteArray)), (5, .int .i64 y1)] (by kernel_rfl) (by kernel_rfl) ?_
    refine WO_end rfl ?_
    refine X_then ?_
    refine W_ret ?_
    refine X_then_ret ?_
    obtain rfl := Option.some.inj hr
    refine X_ret [.tmp 4, .tmp 5] [.string (⟨#[]⟩ : ByteArray), .int .i64 y1] rfl (ResAll.cons (ResAt.tmp (by kernel_rfl)) (ResAll.cons (ResAt.tmp (by kernel_rfl)) ResAll.nil)) ?_
    exact ⟨m2, rfl, hm, st⟩
  · intro hc
    rw [if_neg (not_true hc)] at hr
    refine W_skip ?_
    refine X_then ?_
    refine W_seq ?_
    refine W_seq ?_
    refine W_region ?_
    replace hr := bindS hr
    obtain ⟨o1, hr, hrK⟩ := hr
    refine WO_cut (j := 9) (fun L' w' => ∃ (m3 : Mem), L' = [(1, .int .i64 p1), (2, .pointer (some ⟨b1, 0, none⟩)), (20, .bool o1)] ∧ m.le m3 ∧ St m3 (own) w' ∧ MRow m3 b1 0 [.slice a1 (List.length p0) c1] ∧ RepS cStr m3 a1 c1 p0) ?_ ?_
    · clear hr st
      have hr := hrK
      clear hrK
      rintro _ w3 ⟨m3, rfl, hm, st, hb1, r1⟩
      refine WO_end rfl ?_
      refine X_then ?_
      refine W_cond o1 (by kernel_rfl) ?_ ?_
      · intro hc
        rw [if_pos hc] at hr
        refine W_seq ?_
        refine W_region ?_
        refine WO_seg 2 [(4, .string (⟨#[]⟩ : ByteArray)), (5, .int .i64 20)] (by kernel_rfl) (by kernel_rfl) ?_
        refine WO_end rfl ?_
        refine X_then ?_
        refine W_ret ?_
        refine X_then_ret ?_
        obtain rfl := Option.some.inj hr
        refine X_ret [.tmp 4, .tmp 5] [.string (⟨#[]⟩ : ByteArray), .int .i64 20] rfl (ResAll.cons (ResAt.tmp (by kernel_rfl)) (ResAll.cons (ResAt.tmp (by kernel_rfl)) ResAll.nil)) ?_
        exact ⟨m3, rfl, hm, st⟩
      · intro hc
        rw [if_neg (not_true hc)] at hr
        refine W_skip ?_
        refine X_then ?_
        refine W_seq ?_
        refine W_region ?_
        refine WO_seg 1 [(21, .pointer (some ⟨b1, 0, none⟩))] (by kernel_rfl) (by kernel_rfl) ?_
        refine WO_one rfl (One_load_row (d := 22) (t := 22) (x := (.tmp 21)) (.slice a1 (List.length p0) c1) (by kernel_rfl) rfl (show evL _ _ = some (.pointer (some ⟨b1, 0, none⟩)) from (by kernel_rfl)) st hb1 (by kernel_rfl) ?_)
        refine WO_seg 1 [(23, .int .i64 p1)] (by kernel_rfl) (by kernel_rfl) ?_
        replace hr := bindS hr
        obtain ⟨x1, hx2, hr⟩ := hr
        refine WO_one rfl (One_index (d := 24) (t := 22) (e := 9) (x := (.tmp 22)) (y := (.tmp 23)) cStr (by kernel_rfl) rfl (show evL _ _ = some (.slice a1 (List.length p0) c1) from (by kernel_rfl)) (show evL _ _ = some (.int .i64 p1) from (by kernel_rfl)) (by kernel_rfl) r1 hx2 ?_)
        rintro b2 f1 cs1 rfl hq1
        refine WO_one rfl (One_load_row (d := 25) (t := 9) (x := (.tmp 24)) (.string x1) (by kernel_rfl) rfl (show evL _ _ = some (.pointer (some ⟨b2, f1, none⟩)) from (by kernel_rfl)) st hq1 (by kernel_rfl) ?_)
        refine WO_seg 2 [(4, .string x1), (5, .int .i64 0)] (by kernel_rfl) (by kernel_rfl) ?_
        refine WO_end rfl ?_
        refine X_then ?_
        refine W_ret ?_
        obtain rfl := Option.some.inj hr
        refine X_ret [.tmp 4, .tmp 5] [.string x1, .int .i64 0] rfl (ResAll.cons (ResAt.tmp (by kernel_rfl)) (ResAll.cons (ResAt.tmp (by kernel_rfl)) ResAll.nil)) ?_
        exact ⟨m3, rfl, hm, st⟩
    · intro K
      clear hrK
      refine WO_seg 3 [(14, .bool (decide (p1 < 0)))] (by kernel_rfl) (by kernel_rfl) ?_
      rcases bcases (decide (p1 < 0)) with hc | hc
      · rw [if_pos hc] at hr
        refine WO_fact (t := 14) (b := true) (decide (p1 < 0)) (by kernel_rfl) hc ?_
        refine WO_seg 6 [(20, .bool true)] (by kernel_rfl) (by kernel_rfl) ?_
        obtain rfl := Option.some.inj hr
        exact WO_env _ (by kernel_rfl) (K _ _ ⟨m2, rfl, hm, st, hb1, r1⟩)
      · rw [if_neg (not_true hc)] at hr
        refine WO_fact (t := 14) (b := false) (decide (p1 < 0)) (by kernel_rfl) hc ?_
        refine WO_seg 2 [(15, .int .i64 p1), (16, .pointer (some ⟨b1, 0, none⟩))] (by kernel_rfl) (by kernel_rfl) ?_
        refine WO_one rfl (One_load_row (d := 17) (t := 22) (x := (.tmp 16)) (.slice a1 (List.length p0) c1) (by kernel_rfl) rfl (show evL _ _ = some (.pointer (some ⟨b1, 0, none⟩)) from (by kernel_rfl)) st hb1 (by kernel_rfl) ?_)
        refine WO_seg 3 [(20, .bool (decide (p1 ≥ (List.length p0 : Int))))] (by kernel_rfl) (by kernel_rfl) ?_
        obtain rfl := Option.some.inj hr
        exact WO_env _ (by kernel_rfl) (K _ _ ⟨m2, rfl, hm, st, hb1, r1⟩)

def testgatelaw13_awake (N : Nat) : Option (Bool) :=
  (contents_Put N ([] : List (ByteArray)) (⟨#[120]⟩ : ByteArray)).bind fun y1 => (contents_Put N y1.1 (⟨#[121]⟩ : ByteArray)).bind fun y2 => (contents_Put N y2.1 (⟨#[120]⟩ : ByteArray)).bind fun y3 => (contents_Get N y3.1 1).bind fun y4 => (if (y1.2.2 == 0) = true then (if (y2.2.2 == 0) = true then (if (y3.2.2 == 0) = true then (if (y4.2 == 0) = true then (if (y1.2.1 == 0) = true then (if (y2.2.1 == 1) = true then (if (y3.2.1 == 0) = true then (if (y4.1.toList == (⟨#[121]⟩ : ByteArray).toList) = true then (some ((List.length y3.1 : Int) == 2)) else (some false)) else (some false)) else (some false)) else (some false)) else (some false)) else (some false)) else (some false)) else (some false) : Option (Bool)).bind fun o1 => some o1

set_option maxHeartbeats 4000000 in
set_option maxRecDepth 100000 in
theorem testgatelaw13_awake_ok {N : Nat} {m : Mem} {own : List Piece} {w : World} {r : Bool} (st : St m (own) w) (hr : testgatelaw13_awake N = some r) : Calls Go.Proofs.Try.prog 15 #[] w fun e w' => ∃ (m' : Mem), e = .returned (.bool r) ∧ m.le m' ∧ St m' (own) w' := by
  unfold testgatelaw13_awake at hr
  have hm := m.le_refl
  refine W_calls Go.Proofs.Try.func15 rfl Go.Proofs.Try.ntmps15 [] (by kernel_rfl) rfl ?_
  refine W_seq ?_
  refine W_region ?_
  refine WO_seg 1 [] (by kernel_rfl) (by kernel_rfl) ?_
  refine WO_end rfl ?_
  refine X_then ?_
  refine W_seq ?_
  refine W_region ?_
  refine WO_seg 1 [(11, .agg #[.slice none (List.length ([] : List (ByteArray))) 0])] (by kernel_rfl) (by kernel_rfl) ?_
  replace hr := bindS hr
  obtain ⟨y1, hx1, hr⟩ := hr
  refine WO_one rfl (One_fn 12 13 #[.agg #[.slice none (List.length ([] : List (ByteArray))) 0], .string (⟨#[120]⟩ : ByteArray)] (by kernel_rfl) rfl ?_)
  refine (contents_Put_ok st (RepS.nil _ _) hx1).mono ?_
  clear st
  rintro _ w1 ⟨a1, c1, m1, rfl, hle1, st, r1⟩
  refine ⟨_, rfl, ?_⟩
  have hm := Mem.le_trans hm hle1
  refine WO_seg 4 [(13, .agg #[.slice a1 (List.length y1.1) c1]), (14, .int .i64 y1.2.1), (15, .int .i64 y1.2.2)] (by kernel_rfl) (by kernel_rfl) ?_
  refine WO_one rfl (One_alloc (d := 1) (e := 24) (.agg #[.slice none 0 0]) (by kernel_rfl) rfl (by kernel_rfl) st ?_)
  clear st
  intro b1 w2 st
  refine WO_one rfl (One_store (t := 24) (x := (.tmp 1)) (y := (.tmp 13)) (v := .agg #[.slice a1 (List.length y1.1) c1]) (c' := #[.slice a1 (List.length y1.1) c1]) (by kernel_rfl) (show evL _ _ = some (.pointer (some ⟨b1, 0, none⟩)) from (by kernel_rfl)) (show evL _ _ = some (.agg #[.slice a1 (List.length y1.1) c1]) from (by kernel_rfl)) st (by kernel_rfl) (by kernel_rfl) ?_)
  clear st
  intro w3 st
  refine WO_seg 2 [(2, .int .i64 y1.2.1), (3, .int .i64 y1.2.2)] (by kernel_rfl) (by kernel_rfl) ?_
  refine WO_end rfl ?_
  refine X_then ?_
  refine W_seq ?_
  refine W_region ?_
  refine WO_one rfl (One_load_own (d := 17) (t := 24) (x := (.tmp 1)) (.agg #[.slice a1 (List.length y1.1) c1]) (by kernel_rfl) rfl (show evL _ _ = some (.pointer (some ⟨b1, 0, none⟩)) from (by kernel_rfl)) st.head (by kernel_rfl) ?_)
  replace hr := bindS hr
  obtain ⟨y2, hx2, hr⟩ := hr
  refine WO_one rfl (One_fn 18 13 #[.agg #[.slice a1 (List.length y1.1) c1], .string (⟨#[121]⟩ : ByteArray)] (by kernel_rfl) rfl ?_)
  refine (contents_Put_ok st r1 hx2).mono ?_
  clear st
  rintro _ w4 ⟨a2, c2, m2, rfl, hle2, st, r2⟩
  refine ⟨_, rfl, ?_⟩
  have hm := Mem.le_trans hm hle2
  have r1 := r1.mono hle2
  refine WO_seg 4 [(19, .agg #[.slice a2 (List.length y2.1) c2]), (20, .int .i64 y2.2.1), (21, .int .i64 y2.2.2)] (by kernel_rfl) (by kernel_rfl) ?_
  have st := st.front1
  refine WO_one rfl (One_store (t := 24) (x := (.tmp 1)) (y := (.tmp 19)) (v := .agg #[.slice a2 (List.length y2.1) c2]) (c' := #[.slice a2 (List.length y2.1) c2]) (by kernel_rfl) (show evL _ _ = some (.pointer (some ⟨b1, 0, none⟩)) from (by kernel_rfl)) (show evL _ _ = some (.agg #[.slice a2 (List.length y2.1) c2]) from (by kernel_rfl)) st (by kernel_rfl) (by kernel_rfl) ?_)
  clear st
  intro w5 st
  refine WO_seg 2 [(4, .int .i64 y2.2.1), (5, .int .i64 y2.2.2)] (by kernel_rfl) (by kernel_rfl) ?_
  refine WO_end rfl ?_
  have st := st.front2
  have st := st.tail
  refine X_then ?_
  refine W_seq ?_
  refine W_region ?_
  refine WO_one rfl (One_load_own (d := 23) (t := 24) (x := (.tmp 1)) (.agg #[.slice a2 (List.length y2.1) c2]) (by kernel_rfl) rfl (show evL _ _ = some (.pointer (some ⟨b1, 0, none⟩)) from (by kernel_rfl)) st.head (by kernel_rfl) ?_)
  replace hr := bindS hr
  obtain ⟨y3, hx3, hr⟩ := hr
  refine WO_one rfl (One_fn 24 13 #[.agg #[.slice a2 (List.length y2.1) c2], .string (⟨#[120]⟩ : ByteArray)] (by kernel_rfl) rfl ?_)
  refine (contents_Put_ok st r2 hx3).mono ?_
  clear st
  rintro _ w6 ⟨a3, c3, m3, rfl, hle3, st, r3⟩
  refine ⟨_, rfl, ?_⟩
  have hm := Mem.le_trans hm hle3
  have r2 := r2.mono hle3
  refine WO_seg 4 [(25, .agg #[.slice a3 (List.length y3.1) c3]), (26, .int .i64 y3.2.1), (27, .int .i64 y3.2.2)] (by kernel_rfl) (by kernel_rfl) ?_
  have st := st.front1
  refine WO_one rfl (One_store (t := 24) (x := (.tmp 1)) (y := (.tmp 25)) (v := .agg #[.slice a3 (List.length y3.1) c3]) (c' := #[.slice a3 (List.length y3.1) c3]) (by kernel_rfl) (show evL _ _ = some (.pointer (some ⟨b1, 0, none⟩)) from (by kernel_rfl)) (show evL _ _ = some (.agg #[.slice a3 (List.length y3.1) c3]) from (by kernel_rfl)) st (by kernel_rfl) (by kernel_rfl) ?_)
  clear st
  intro w7 st
  refine WO_seg 2 [(6, .int .i64 y3.2.1), (7, .int .i64 y3.2.2)] (by kernel_rfl) (by kernel_rfl) ?_
  refine WO_end rfl ?_
  have st := st.front2
  have st := st.tail
  refine X_then ?_
  refine W_seq ?_
  refine W_region ?_
  refine WO_one rfl (One_load_own (d := 29) (t := 24) (x := (.tmp 1)) (.agg #[.slice a3 (List.length y3.1) c3]) (by kernel_rfl) rfl (show evL _ _ = some (.pointer (some ⟨b1, 0, none⟩)) from (by kernel_rfl)) st.head (by kernel_rfl) ?_)
  replace hr := bindS hr
  obtain ⟨y4, hx4, hr⟩ := hr
  refine WO_one rfl (One_fn 30 23 #[.agg #[.slice a3 (List.length y3.1) c3], .int .i64 1] (by kernel_rfl) rfl ?_)
  refine (contents_Get_ok st r3 hx4).mono ?_
  clear st
  rintro _ w8 ⟨m4, rfl, hle4, st⟩
  refine ⟨_, rfl, ?_⟩
  have hm := Mem.le_trans hm hle4
  have r3 := r3.mono hle4
  refine WO_seg 5 [(8, .string y4.1), (9, .int .i64 y4.2)] (by kernel_rfl) (by kernel_rfl) ?_
  refine WO_end rfl ?_
  refine X_then ?_
  refine W_seq ?_
  refine W_region ?_
  replace hr := bindS hr
  obtain ⟨o1, hr, hrK⟩ := hr
  refine WO_cut (j := 37) (fun L' w' => ∃ (m5 : Mem), L' = [(0, .bool o1)] ∧ m.le m5 ∧ St m5 (.blk b1 (.cells #[.slice a3 (List.length y3.1) c3] 24 (0, 0)) :: .room a3 (List.length y3.1) c3 9 1 :: own) w' ∧ RepS cStr m5 a3 c3 y3.1) ?_ ?_
  · clear hr st
    have hr := hrK
    clear hrK
    rintro _ w9 ⟨m5, rfl, hm, st, r3⟩
    refine WO_end rfl ?_
    refine X_then ?_
    refine W_ret ?_
    obtain rfl := Option.some.inj hr
    refine X_ret [.tmp 0] [.bool o1] rfl (ResAll.cons (ResAt.tmp (by kernel_rfl)) ResAll.nil) ?_
    have st := st.tail
    have st := st.tail
    exact ⟨m5, rfl, hm, st⟩
  · intro K
    clear hrK
    refine WO_seg 3 [(35, .bool (y1.2.2 == 0))] (by kernel_rfl) (by kernel_rfl) ?_
    rcases bcases (y1.2.2 == 0) with hc | hc
    · rw [if_pos hc] at hr
      refine WO_fact (t := 35) (b := true) (y1.2.2 == 0) (by kernel_rfl) hc ?_
      refine WO_seg 4 [(39, .bool (y2.2.2 == 0))] (by kernel_rfl) (by kernel_rfl) ?_
      rcases bcases (y2.2.2 == 0) with hc | hc
      · rw [if_pos hc] at hr
        refine WO_fact (t := 39) (b := true) (y2.2.2 == 0) (by kernel_rfl) hc ?_
        refine WO_seg 4 [(43, .bool (y3.2.2 == 0))] (by kernel_rfl) (by kernel_rfl) ?_
        rcases bcases (y3.2.2 == 0) with hc | hc
        · rw [if_pos hc] at hr
          refine WO_fact (t := 43) (b := true) (y3.2.2 == 0) (by kernel_rfl) hc ?_
          refine WO_seg 4 [(47, .bool (y4.2 == 0))] (by kernel_rfl) (by kernel_rfl) ?_
          rcases bcases (y4.2 == 0) with hc | hc
          · rw [if_pos hc] at hr
            refine WO_fact (t := 47) (b := true) (y4.2 == 0) (by kernel_rfl) hc ?_
            refine WO_seg 4 [(51, .bool (y1.2.1 == 0))] (by kernel_rfl) (by kernel_rfl) ?_
            rcases bcases (y1.2.1 == 0) with hc | hc
            · rw [if_pos hc] at hr
              refine WO_fact (t := 51) (b := true) (y1.2.1 == 0) (by kernel_rfl) hc ?_
              refine WO_seg 4 [(55, .bool (y2.2.1 == 1))] (by kernel_rfl) (by kernel_rfl) ?_
              rcases bcases (y2.2.1 == 1) with hc | hc
              · rw [if_pos hc] at hr
                refine WO_fact (t := 55) (b := true) (y2.2.1 == 1) (by kernel_rfl) hc ?_
                refine WO_seg 4 [(59, .bool (y3.2.1 == 0))] (by kernel_rfl) (by kernel_rfl) ?_
                rcases bcases (y3.2.1 == 0) with hc | hc
                · rw [if_pos hc] at hr
                  refine WO_fact (t := 59) (b := true) (y3.2.1 == 0) (by kernel_rfl) hc ?_
                  refine WO_seg 4 [(63, .bool (y4.1.toList == (⟨#[121]⟩ : ByteArray).toList))] (by kernel_rfl) (by kernel_rfl) ?_
                  rcases bcases (y4.1.toList == (⟨#[121]⟩ : ByteArray).toList) with hc | hc
                  · rw [if_pos hc] at hr
                    refine WO_fact (t := 63) (b := true) (y4.1.toList == (⟨#[121]⟩ : ByteArray).toList) (by kernel_rfl) hc ?_
                    refine WO_seg 1 [(64, .pointer (some ⟨b1, 0, none⟩))] (by kernel_rfl) (by kernel_rfl) ?_
                    refine WO_one rfl (One_load_own (d := 65) (t := 22) (x := (.tmp 64)) (.slice a3 (List.length y3.1) c3) (by kernel_rfl) rfl (show evL _ _ = some (.pointer (some ⟨b1, 0, none⟩)) from (by kernel_rfl)) st.head (by kernel_rfl) ?_)
                    refine WO_seg 4 [(0, .bool ((List.length y3.1 : Int) == 2))] (by kernel_rfl) (by kernel_rfl) ?_
                    obtain rfl := Option.some.inj hr
                    have st := st.front1
                    have st := st.front1
                    exact WO_env _ (by kernel_rfl) (K _ _ ⟨m4, rfl, hm, st, r3⟩)
                  · rw [if_neg (not_true hc)] at hr
                    refine WO_fact (t := 63) (b := false) (y4.1.toList == (⟨#[121]⟩ : ByteArray).toList) (by kernel_rfl) hc ?_
                    refine WO_seg 6 [(0, .bool false)] (by kernel_rfl) (by kernel_rfl) ?_
                    obtain rfl := Option.some.inj hr
                    have st := st.front1
                    have st := st.front1
                    exact WO_env _ (by kernel_rfl) (K _ _ ⟨m4, rfl, hm, st, r3⟩)
                · rw [if_neg (not_true hc)] at hr
                  refine WO_fact (t := 59) (b := false) (y3.2.1 == 0) (by kernel_rfl) hc ?_
                  refine WO_seg 10 [(0, .bool false)] (by kernel_rfl) (by kernel_rfl) ?_
                  obtain rfl := Option.some.inj hr
                  have st := st.front1
                  have st := st.front1
                  exact WO_env _ (by kernel_rfl) (K _ _ ⟨m4, rfl, hm, st, r3⟩)
              · rw [if_neg (not_true hc)] at hr
                refine WO_fact (t := 55) (b := false) (y2.2.1 == 1) (by kernel_rfl) hc ?_
                refine WO_seg 14 [(0, .bool false)] (by kernel_rfl) (by kernel_rfl) ?_
                obtain rfl := Option.some.inj hr
                have st := st.front1
                have st := st.front1
                exact WO_env _ (by kernel_rfl) (K _ _ ⟨m4, rfl, hm, st, r3⟩)
            · rw [if_neg (not_true hc)] at hr
              refine WO_fact (t := 51) (b := false) (y1.2.1 == 0) (by kernel_rfl) hc ?_
              refine WO_seg 18 [(0, .bool false)] (by kernel_rfl) (by kernel_rfl) ?_
              obtain rfl := Option.some.inj hr
              have st := st.front1
              have st := st.front1
              exact WO_env _ (by kernel_rfl) (K _ _ ⟨m4, rfl, hm, st, r3⟩)
          · rw [if_neg (not_true hc)] at hr
            refine WO_fact (t := 47) (b := false) (y4.2 == 0) (by kernel_rfl) hc ?_
            refine WO_seg 22 [(0, .bool false)] (by kernel_rfl) (by kernel_rfl) ?_
            obtain rfl := Option.some.inj hr
            have st := st.front1
            have st := st.front1
            exact WO_env _ (by kernel_rfl) (K _ _ ⟨m4, rfl, hm, st, r3⟩)
        · rw [if_neg (not_true hc)] at hr
          refine WO_fact (t := 43) (b := false) (y3.2.2 == 0) (by kernel_rfl) hc ?_
          refine WO_seg 26 [(0, .bool false)] (by kernel_rfl) (by kernel_rfl) ?_
          obtain rfl := Option.some.inj hr
          have st := st.front1
          have st := st.front1
          exact WO_env _ (by kernel_rfl) (K _ _ ⟨m4, rfl, hm, st, r3⟩)
      · rw [if_neg (not_true hc)] at hr
        refine WO_fact (t := 39) (b := false) (y2.2.2 == 0) (by kernel_rfl) hc ?_
        refine WO_seg 30 [(0, .bool false)] (by kernel_rfl) (by kernel_rfl) ?_
        obtain rfl := Option.some.inj hr
        have st := st.front1
        have st := st.front1
        exact WO_env _ (by kernel_rfl) (K _ _ ⟨m4, rfl, hm, st, r3⟩)
    · rw [if_neg (not_true hc)] at hr
      refine WO_fact (t := 35) (b := false) (y1.2.2 == 0) (by kernel_rfl) hc ?_
      refine WO_seg 34 [(0, .bool false)] (by kernel_rfl) (by kernel_rfl) ?_
      obtain rfl := Option.some.inj hr
      have st := st.front1
      have st := st.front1
      exact WO_env _ (by kernel_rfl) (K _ _ ⟨m4, rfl, hm, st, r3⟩)

def testgatemake_SameTexts_L1 (N : Nat) (p0 : List ByteArray) (p1 : List ByteArray) (s1 : Int) : Option ((Int) ⊕ ((Unit) ⊕ (Bool))) :=
  if (decide (s1 < (List.length p0 : Int))) = true then ((idx p0 s1).bind fun x1 => (idx p1 s1).bind fun x2 => if (!(x1.toList == x2.toList)) = true then (some (.inr (.inr (false)))) else (some (.inl (IntKind.wrap .i64 (s1 + 1))))) else (some (.inr (.inl ())))

def testgatemake_SameTexts (N : Nat) (p0 : List ByteArray) (p1 : List ByteArray) : Option (Bool) :=
  if ((List.length p0 : Int) != (List.length p1 : Int)) = true then (some false) else ((loopM (testgatemake_SameTexts_L1 N p0 p1) N 0).bind fun out1 => (match out1 with | .inl o1 => some true | .inr (z) => some z))

set_option maxHeartbeats 4000000 in
set_option maxRecDepth 100000 in
theorem testgatemake_SameTexts_ok {N : Nat} {m : Mem} {own : List Piece} {w : World} {p0 : List ByteArray} {p1 : List ByteArray} {a1 : Option Addr} {c1 : Nat} {a2 : Option Addr} {c2 : Nat} {r : Bool} (st : St m (own) w) (r1 : RepS cStr m a1 c1 p0) (r2 : RepS cStr m a2 c2 p1) (hr : testgatemake_SameTexts N p0 p1 = some r) : Calls Go.Proofs.Try.prog 59 #[.slice a1 (List.length p0) c1, .slice a2 (List.length p1) c2] w fun e w' => ∃ (m' : Mem), e = .returned (.bool r) ∧ m.le m' ∧ St m' (own) w' := by
  unfold testgatemake_SameTexts at hr
  have hm := m.le_refl
  refine W_calls Go.Proofs.Try.func59 rfl Go.Proofs.Try.ntmps59 [(0, .slice a1 (List.length p0) c1), (1, .slice a2 (List.length p1) c2)] (by kernel_rfl) rfl ?_
  refine W_seq ?_
  refine W_region ?_
  refine WO_seg 1 [] (by kernel_rfl) (by kernel_rfl) ?_
  refine WO_end rfl ?_
  refine X_then ?_
  refine W_seq ?_
  refine W_seq ?_
  refine W_region ?_
  refine WO_seg 5 [(10, .bool ((List.length p0 : Int) != (List.length p1 : Int)))] (by kernel_rfl) (by kernel_rfl) ?_
  refine WO_end rfl ?_
  refine X_then ?_
  refine W_cond ((List.length p0 : Int) != (List.length p1 : Int)) (by kernel_rfl) ?_ ?_
  · intro hc
    rw [if_pos hc] at hr
    refine W_seq ?_
    refine W_region ?_
    refine WO_seg 1 [(4, .bool false)] (by kernel_rfl) (by kernel_rfl) ?_
    refine WO_end rfl ?_
    refine X_then ?_
    refine W_ret ?_
    refine X_then_ret ?_
    obtain rfl := Option.some.inj hr
    refine X_ret [.tmp 4] [.bool false] rfl (ResAll.cons (ResAt.tmp (by kernel_rfl)) ResAll.nil) ?_
    exact ⟨m, rfl, hm, st⟩
  · intro hc
    rw [if_neg (not_true hc)] at hr
    refine W_skip ?_
    refine X_then ?_
    refine W_seq ?_
    refine W_seq ?_
    refine W_region ?_
    refine WO_seg 1 [(5, .int .i64 0)] (by kernel_rfl) (by kernel_rfl) ?_
    refine WO_end rfl ?_
    refine X_then ?_
    refine W_block ?_
    replace hr := bindS hr
    obtain ⟨out1, hr, hrKu1⟩ := hr
    refine W_cut (.exit 0) (fun L' w' => ∃ (o1 : Unit) (m1 : Mem), (.inl o1) = out1 ∧ L' = [] ∧ m.le m1 ∧ St m1 (own) w') ?_ ?_
    · clear hr st
      rintro _ w1 ⟨o1, m1, rfl, rfl, hm, st⟩
      have hr := hrKu1
      clear hrKu1
      dsimp only at hr
      refine X_block_eq ?_
      refine X_then ?_
      refine W_seq ?_
      refine W_region ?_
      refine WO_seg 1 [(4, .bool true)] (by kernel_rfl) (by kernel_rfl) ?_
      refine WO_end rfl ?_
      refine X_then ?_
      refine W_ret ?_
      obtain rfl := Option.some.inj hr
      refine X_ret [.tmp 4] [.bool true] rfl (ResAll.cons (ResAt.tmp (by kernel_rfl)) ResAll.nil) ?_
      exact ⟨m1, rfl, hm, st⟩
    intro K0_u1
    refine W_env _ (by kernel_rfl) (W_loop (fun k1 L' w' => ∃ (s1 : Int) (m2 : Mem), loopM (testgatemake_SameTexts_L1 N p0 p1) k1 s1 = some out1 ∧ L' = [(0, .slice a1 (List.length p0) c1), (1, .slice a2 (List.length p1) c2), (5, .int .i64 s1)] ∧ m.le m2 ∧ St m2 (own) w' ∧ RepS cStr m2 a1 c1 p0 ∧ RepS cStr m2 a2 c2 p1) N ⟨0, m, hr, rfl, hm, st, r1, r2⟩ ?_)
    clear st hr
    rintro k1 _ w2 ⟨s1, m2, hL, rfl, hm, st, r1, r2⟩
    rcases k1 with _ | k1
    · exact loopM_zero hL
    · obtain ⟨qu1, hr, hSu1, hBu1⟩ := loopM_succ hL
      clear hL
      unfold testgatemake_SameTexts_L1 at hr
      refine W_seq ?_
      refine W_seq ?_
      refine W_region ?_
      refine WO_seg 4 [(14, .bool (decide (s1 < (List.length p0 : Int))))] (by kernel_rfl) (by kernel_rfl) ?_
      refine WO_end rfl ?_
      refine X_then ?_
      refine W_cond (decide (s1 < (List.length p0 : Int))) (by kernel_rfl) ?_ ?_
      · intro hc
        rw [if_pos hc] at hr
        refine W_skip ?_
        refine X_then ?_
        refine W_seq ?_
        refine W_block ?_
        refine W_seq ?_
        refine W_draw [(9, fun w' => Inv m2 w' ∧ True)] (by kernel_rfl) st ?_
        clear st
        intro w3 _ st
        have hmS := m2.le_refl
        refine ⟨⟨.inr ⟨Inv.anti st.inv hmS, trivial⟩, trivial⟩, ?_⟩
        refine WA_pure 0 17 (.slice a1 (List.length p0) c1) (by kernel_rfl) rfl (by kernel_rfl) (.head _) (QP_then (QP_block (QP_then (QP_then (QP_block (QP_then QP_body)))))) ?_
        refine WA_pure 1 18 (.int .i64 s1) (by kernel_rfl) rfl (by kernel_rfl) (.head _) (QP_then (QP_block (QP_then (QP_then (QP_block (QP_then QP_body)))))) ?_
        replace hr := bindS hr
        obtain ⟨x1, hx1, hr⟩ := hr
        refine WA_index (t := 22) (e := 9) (x := (.tmp 17)) (y := (.tmp 18)) 2 19 cStr (by kernel_rfl) rfl (by kernel_rfl) (.head _) (QP_then (QP_block (QP_then (QP_then (QP_block (QP_then QP_body)))))) (show evL _ _ = some (.slice a1 (List.length p0) c1) from (by kernel_rfl)) (show evL _ _ = some (.int .i64 s1) from (by kernel_rfl)) (by kernel_rfl) r1 hx1 ?_
        rintro b1 f1 cs1 rfl hq1
        refine WA_load_row (t := 9) (x := (.tmp 19)) 3 20 (.string x1) (by kernel_rfl) rfl (by kernel_rfl) (.head _) (QP_then (QP_block (QP_then (QP_then (QP_block (QP_then QP_body)))))) (fun _ h => h.1) (show evL _ _ = some (.pointer (some ⟨b1, f1, none⟩)) from (by kernel_rfl)) hq1 (by kernel_rfl) ?_
        refine WA_pure 4 21 (.slice a2 (List.length p1) c2) (by kernel_rfl) rfl (by kernel_rfl) (.head _) (QP_then (QP_block (QP_then (QP_then (QP_block (QP_then QP_body)))))) ?_
        refine WA_pure 5 22 (.int .i64 s1) (by kernel_rfl) rfl (by kernel_rfl) (.head _) (QP_then (QP_block (QP_then (QP_then (QP_block (QP_then QP_body)))))) ?_
        replace hr := bindS hr
        obtain ⟨x2, hx2, hr⟩ := hr
        refine WA_index (t := 22) (e := 9) (x := (.tmp 21)) (y := (.tmp 22)) 6 23 cStr (by kernel_rfl) rfl (by kernel_rfl) (.head _) (QP_then (QP_block (QP_then (QP_then (QP_block (QP_then QP_body)))))) (show evL _ _ = some (.slice a2 (List.length p1) c2) from (by kernel_rfl)) (show evL _ _ = some (.int .i64 s1) from (by kernel_rfl)) (by kernel_rfl) r2 hx2 ?_
        rintro b2 f2 cs2 rfl hq2
        refine WA_load_row (t := 9) (x := (.tmp 23)) 7 24 (.string x2) (by kernel_rfl) rfl (by kernel_rfl) (.head _) (QP_then (QP_block (QP_then (QP_then (QP_block (QP_then QP_body)))))) (fun _ h => h.1) (show evL _ _ = some (.pointer (some ⟨b2, f2, none⟩)) from (by kernel_rfl)) hq2 (by kernel_rfl) ?_
        refine WA_pure 8 25 (.bool (!(x1.toList == x2.toList))) (by kernel_rfl) rfl (by kernel_rfl) (.head _) (QP_then (QP_block (QP_then (QP_then (QP_block (QP_then QP_body)))))) ?_
        refine WA_done (by kernel_rfl) ?_
        refine X_then ?_
        refine W_cond (!(x1.toList == x2.toList)) (by kernel_rfl) ?_ ?_
        · intro hc
          rw [if_pos hc] at hr
          refine W_seq ?_
          refine W_region ?_
          refine WO_seg 1 [(4, .bool false)] (by kernel_rfl) (by kernel_rfl) ?_
          refine WO_end rfl ?_
          refine X_then ?_
          refine W_ret ?_
          refine X_block_ret ?_
          refine X_then_ret ?_
          obtain rfl := Option.some.inj hr
          have ho := hBu1 _ rfl
          subst ho
          have hr := hrKu1
          dsimp only at hr
          refine X_then_ret ?_
          refine X_block_ret ?_
          refine X_then_ret ?_
          obtain rfl := Option.some.inj hr
          refine X_ret [.tmp 4] [.bool false] rfl (ResAll.cons (ResAt.tmp (by kernel_rfl)) ResAll.nil) ?_
          exact ⟨m2, rfl, hm, st⟩
        · intro hc
          rw [if_neg (not_true hc)] at hr
          refine W_skip ?_
          refine X_block ?_
          refine X_then ?_
          refine W_region ?_
          refine WO_seg 3 [(5, .int .i64 (IntKind.wrap .i64 (s1 + 1)))] (by kernel_rfl) (by kernel_rfl) ?_
          refine WO_end rfl ?_
          obtain rfl := Option.some.inj hr
          have hL := hSu1 _ rfl
          exact X_env _ (by kernel_rfl) (X_round k1 (Nat.lt_succ_self _) ⟨IntKind.wrap .i64 (s1 + 1), m2, hL, rfl, hm, st, r1, r2⟩)
      · intro hc
        rw [if_neg (not_true hc)] at hr
        refine W_exit ?_
        refine X_then_exit ?_
        obtain rfl := Option.some.inj hr
        have ho := hBu1 _ rfl
        refine X_then_exit ?_
        exact X_env _ (by kernel_rfl) (K0_u1 _ _ ⟨(), m2, ho, rfl, hm, st⟩)

def contents_Keep_L1 (N : Nat) (p0 : List ByteArray) (p1 : List Int) (s1 : Int × List (Bool)) : Option ((Int × List (Bool)) ⊕ ((List (Bool)) ⊕ (List ByteArray × List Int × Int))) :=
  if (decide (s1.1 < (List.length p1 : Int))) = true then ((idx p1 s1.1).bind fun x1 => (if (decide (x1 < 0)) = true then (some true) else (some (decide (x1 ≥ ((Int.toNat (List.length p0 : Int)) : Int)))) : Option (Bool)).bind fun o2 => if o2 = true then (some (.inr (.inr ((([] : List (ByteArray)), ([] : List (Int)), 20))))) else ((idx s1.2 x1).bind fun x2 => some (.inl (IntKind.wrap .i64 (s1.1 + 1), List.set s1.2 (Int.toNat x1) true)))) else (some (.inr (.inl s1.2)))

def contents_Keep_L2 (N : Nat) (p0 : List ByteArray) (o1 : List (Bool)) (s2 : List (Int) × Int × List (ByteArray)) : Option ((List (Int) × Int × List (ByteArray)) ⊕ ((List (Int) × List (ByteArray)))) :=
  if (decide (s2.2.1 < (List.length p0 : Int))) = true then (((idx p0 s2.2.1).bind fun x3 => (idx o1 s2.2.1).bind fun x4 => if (!x4) = true then ((appendS 8 s2.1 ([(-1)])).bind fun l2 => some (l2, s2.2.2)) else ((appendS 8 s2.1 ([(List.length s2.2.2 : Int)])).bind fun l3 => (appendS 16 s2.2.2 ([x3])).bind fun l4 => some (l3, l4)) : Option (List (Int) × List (ByteArray))).bind fun o4 => some (.inl (o4.1, IntKind.wrap .i64 (s2.2.1 + 1), o4.2))) else (some (.inr (s2.1, s2.2.2)))

def contents_Keep (N : Nat) (p0 : List ByteArray) (p1 : List Int) : Option (List ByteArray × List Int × Int) :=
  (contents_Check N p0).bind fun y1 => if (y1 != 0) = true then (some (([] : List (ByteArray)), ([] : List (Int)), y1)) else ((makeA 1 false (List.length p0 : Int)).bind fun l1 => (loopM (contents_Keep_L1 N p0 p1) N (0, l1)).bind fun out1 => (match out1 with | .inl o1 => (loopM (contents_Keep_L2 N p0 o1) N (([] : List (Int)), 0, ([] : List (ByteArray)))).bind fun o3 => some (o3.2, o3.1, 0) | .inr (z) => some z))

set_option maxHeartbeats 4000000 in
set_option maxRecDepth 100000 in
theorem contents_Keep_ok {N : Nat} {m : Mem} {own : List Piece} {w : World} {p0 : List ByteArray} {p1 : List Int} {a1 : Option Addr} {c1 : Nat} {a2 : Option Addr} {c2 : Nat} {r : List ByteArray × List Int × Int} (st : St m (own) w) (r1 : RepS cStr m a1 c1 p0) (r2 : RepS (cInt .i64) m a2 c2 p1) (hr : contents_Keep N p0 p1 = some r) : Calls Go.Proofs.Try.prog 26 #[.agg #[.slice a1 (List.length p0) c1], .slice a2 (List.length p1) c2] w fun e w' => ∃ (ra1 : Option Addr) (rc1 : Nat) (ra2 : Option Addr) (rc2 : Nat) (m' : Mem), e = .returned (.tuple #[.agg #[.slice ra1 (List.length r.1) rc1], .slice ra2 (List.length r.2.1) rc2, .int .i64 r.2.2]) ∧ m.le m' ∧ St m' (.room ra1 (List.length r.1) rc1 9 1 :: .room ra2 (List.length r.2.1) rc2 3 1 :: own) w' ∧ RepS cStr m' ra1 rc1 r.1 ∧ RepS (cInt .i64) m' ra2 rc2 r.2.1 := by
  unfold contents_Keep at hr
  have hm := m.le_refl
  refine W_calls Go.Proofs.Try.func26 rfl Go.Proofs.Try.ntmps26 [(0, .agg #[.slice a1 (List.length p0) c1]), (1, .slice a2 (List.length p1) c2)] (by kernel_rfl) rfl ?_
  refine W_seq ?_
  refine W_region ?_
  refine WO_one rfl (One_box (d := 2) (e := 24) (x := (.tmp 0)) (.agg #[.slice a1 (List.length p0) c1]) (by kernel_rfl) rfl (by kernel_rfl) st ?_)
  clear st
  intro b1 m1 w1 hle1 st hb1
  have hm := Mem.le_trans hm hle1
  have r1 := r1.mono hle1
  have r2 := r2.mono hle1
  refine WO_one rfl (One_alloc (d := 4) (e := 24) (.agg #[.slice none 0 0]) (by kernel_rfl) rfl (by kernel_rfl) st ?_)
  clear st
  intro b2 w2 st
  refine WO_seg 2 [] (by kernel_rfl) (by kernel_rfl) ?_
  refine WO_end rfl ?_
  refine X_then ?_
  refine W_seq ?_
  refine W_seq ?_
  refine W_region ?_
  refine WO_one rfl (One_load_row (d := 15) (t := 24) (x := (.tmp 2)) (.agg #[.slice a1 (List.length p0) c1]) (by kernel_rfl) rfl (show evL _ _ = some (.pointer (some ⟨b1, 0, none⟩)) from (by kernel_rfl)) st hb1 (by kernel_rfl) ?_)
  replace hr := bindS hr
  obtain ⟨y1, hx1, hr⟩ := hr
  refine WO_one rfl (One_fn 16 14 #[.agg #[.slice a1 (List.length p0) c1]] (by kernel_rfl) rfl ?_)
  refine (contents_Check_ok st r1 hx1).mono ?_
  clear st
  rintro _ w3 ⟨m2, rfl, hle2, st⟩
  refine ⟨_, rfl, ?_⟩
  have hm := Mem.le_trans hm hle2
  have r2 := r2.mono hle2
  have hb1 := hb1.mono hle2
  have r1 := r1.mono hle2
  refine WO_seg 1 [(7, .int .i64 y1)] (by kernel_rfl) (by kernel_rfl) ?_
  refine WO_end rfl ?_
  refine X_then ?_
  refine W_seq ?_
  refine W_region ?_
  refine WO_seg 2 [(18, .bool (y1 != 0))] (by kernel_rfl) (by kernel_rfl) ?_
  refine WO_end rfl ?_
  refine X_then ?_
  refine W_cond (y1 != 0) (by kernel_rfl) ?_ ?_
  · intro hc
    rw [if_pos hc] at hr
    refine W_seq ?_
    refine W_region ?_
    refine WO_seg 2 [(19, .agg #[.slice none (List.length ([] : List (ByteArray))) 0]), (20, .int .i64 y1)] (by kernel_rfl) (by kernel_rfl) ?_
    refine WO_one rfl (One_store (t := 24) (x := (.tmp 4)) (y := (.tmp 19)) (v := .agg #[.slice none (List.length ([] : List (ByteArray))) 0]) (c' := #[.slice none (List.length ([] : List (ByteArray))) 0]) (by kernel_rfl) (show evL _ _ = some (.pointer (some ⟨b2, 0, none⟩)) from (by kernel_rfl)) (show evL _ _ = some (.agg #[.slice none (List.length ([] : List (ByteArray))) 0]) from (by kernel_rfl)) st (by kernel_rfl) (by kernel_rfl) ?_)
    clear st
    intro w4 st
    refine WO_seg 2 [(5, .slice none (List.length ([] : List (Int))) 0), (6, .int .i64 y1)] (by kernel_rfl) (by kernel_rfl) ?_
    refine WO_end rfl ?_
    refine X_then ?_
    refine W_ret ?_
    refine X_then_ret ?_
    obtain rfl := Option.some.inj hr
    refine X_ret [.cell 4 24, .tmp 5, .tmp 6] [.agg #[.slice none (List.length ([] : List (ByteArray))) 0], .slice none (List.length ([] : List (Int))) 0, .int .i64 y1] rfl (ResAll.cons (ResAt.blk (v := .agg #[.slice none (List.length ([] : List (ByteArray))) 0]) (o := 0) (by kernel_rfl) st.head (by kernel_rfl)) (ResAll.cons (ResAt.tmp (by kernel_rfl)) (ResAll.cons (ResAt.tmp (by kernel_rfl)) ResAll.nil))) ?_
    have st := st.nilroom 9 1
    have st := st.nilroom 3 1
    have st := st.front2
    have st := st.tail
    have st := st.front1
    exact ⟨none, 0, none, 0, m2, rfl, hm, st, (RepS.nil _ _), (RepS.nil _ _)⟩
  · intro hc
    rw [if_neg (not_true hc)] at hr
    refine W_skip ?_
    refine X_then ?_
    refine W_seq ?_
    refine W_region ?_
    refine WO_seg 1 [(21, .pointer (some ⟨b1, 0, none⟩))] (by kernel_rfl) (by kernel_rfl) ?_
    refine WO_one rfl (One_load_row (d := 22) (t := 22) (x := (.tmp 21)) (.slice a1 (List.length p0) c1) (by kernel_rfl) rfl (show evL _ _ = some (.pointer (some ⟨b1, 0, none⟩)) from (by kernel_rfl)) st hb1 (by kernel_rfl) ?_)
    refine WO_seg 1 [(23, .int .i64 (List.length p0 : Int))] (by kernel_rfl) (by kernel_rfl) ?_
    replace hr := bindS hr
    obtain ⟨l1, hx2, hr⟩ := hr
    refine WO_one rfl (One_makeArr (d := 24) (t := 98) (e := 4) (by_ := 1) (x := (.tmp 23)) (y := (.tmp 23)) (fun x : Bool => Value.bool x) (by kernel_rfl) rfl (show evL _ _ = some (.int .i64 (List.length p0 : Int)) from (by kernel_rfl)) (show evL _ _ = some (.int .i64 (List.length p0 : Int)) from (by kernel_rfl)) (by kernel_rfl) (by kernel_rfl) rfl st hx2 ?_)
    clear st
    intro b3 w5 hn1 st
    refine WO_seg 1 [(8, .slice (some ⟨b3, 0, none⟩) (Int.toNat (List.length p0 : Int)) (Int.toNat (List.length p0 : Int)))] (by kernel_rfl) (by kernel_rfl) ?_
    refine WO_end rfl ?_
    refine X_then ?_
    refine W_seq ?_
    refine W_seq ?_
    refine W_region ?_
    refine WO_seg 3 [(25, .slice a2 (List.length p1) c2), (26, .int .i64 (List.length p1 : Int)), (27, .int .i64 0)] (by kernel_rfl) (by kernel_rfl) ?_
    refine WO_end rfl ?_
    refine X_then ?_
    refine W_block ?_
    replace hr := bindS hr
    obtain ⟨out1, hr, hrKu1⟩ := hr
    refine W_cut (.exit 0) (fun L' w' => ∃ (o1 : List (Bool)) (m3 : Mem), (.inl o1) = out1 ∧ L' = [(2, .pointer (some ⟨b1, 0, none⟩)), (4, .pointer (some ⟨b2, 0, none⟩)), (8, .slice (some ⟨b3, 0, none⟩) (Int.toNat (List.length p0 : Int)) (Int.toNat (List.length p0 : Int)))] ∧ m.le m3 ∧ St m3 (.blk b2 (.cells #[.slice none (List.length ([] : List (ByteArray))) 0] 24 (0, 0)) :: .blk b3 (.cells (acells (fun x : Bool => Value.bool x) o1 []) 4 (0, 0)) :: own) w' ∧ MRow m3 b1 0 [.slice a1 (List.length p0) c1] ∧ RepS cStr m3 a1 c1 p0 ∧ List.length o1 = (Int.toNat (List.length p0 : Int))) ?_ ?_
    · clear hr st
      rintro _ w6 ⟨o1, m3, rfl, rfl, hm, st, hb1, r1, hn2⟩
      have hr := hrKu1
      clear hrKu1
      dsimp only at hr
      refine X_block_eq ?_
      refine X_then ?_
      refine W_seq ?_
      refine W_region ?_
      refine WO_one rfl (One_alloc (d := 11) (e := 24) (.agg #[.slice none 0 0]) (by kernel_rfl) rfl (by kernel_rfl) st ?_)
      clear st
      intro b5 w11 st
      refine WO_end rfl ?_
      refine X_then ?_
      refine W_seq ?_
      refine W_region ?_
      refine WO_seg 1 [(12, .slice none (List.length ([] : List (Int))) 0)] (by kernel_rfl) (by kernel_rfl) ?_
      refine WO_end rfl ?_
      refine X_then ?_
      refine W_seq ?_
      refine W_seq ?_
      refine W_region ?_
      refine WO_seg 1 [(44, .pointer (some ⟨b1, 0, none⟩))] (by kernel_rfl) (by kernel_rfl) ?_
      refine WO_one rfl (One_load_row (d := 45) (t := 22) (x := (.tmp 44)) (.slice a1 (List.length p0) c1) (by kernel_rfl) rfl (show evL _ _ = some (.pointer (some ⟨b1, 0, none⟩)) from (by kernel_rfl)) st hb1 (by kernel_rfl) ?_)
      refine WO_seg 2 [(46, .int .i64 (List.length p0 : Int)), (47, .int .i64 0)] (by kernel_rfl) (by kernel_rfl) ?_
      refine WO_end rfl ?_
      refine X_then ?_
      refine W_block ?_
      replace hr := bindS hr
      obtain ⟨out2, hr, hrKu3⟩ := hr
      refine W_cut (.exit 2) (fun L' w' => ∃ (o3 : List (Int) × List (ByteArray)) (a3 : Option Addr) (c3 : Nat) (a4 : Option Addr) (c4 : Nat) (m6 : Mem), o3 = out2 ∧ L' = [(4, .pointer (some ⟨b2, 0, none⟩)), (11, .pointer (some ⟨b5, 0, none⟩)), (12, .slice a3 (List.length o3.1) c3)] ∧ m.le m6 ∧ St m6 (.blk b5 (.cells #[.slice a4 (List.length o3.2) c4] 24 (0, 0)) :: .blk b2 (.cells #[.slice none (List.length ([] : List (ByteArray))) 0] 24 (0, 0)) :: .blk b3 (.cells (acells (fun x : Bool => Value.bool x) o1 []) 4 (0, 0)) :: .room a3 (List.length o3.1) c3 3 1 :: .room a4 (List.length o3.2) c4 9 1 :: own) w' ∧ RepS (cInt .i64) m6 a3 c3 o3.1 ∧ RepS cStr m6 a4 c4 o3.2 ∧ List.length o1 = (Int.toNat (List.length p0 : Int))) ?_ ?_
      · clear hr st
        rintro _ w12 ⟨o3, a3, c3, a4, c4, m6, rfl, rfl, hm, st, r3, r4, hn2⟩
        have hr := hrKu3
        clear hrKu3
        refine X_block_eq ?_
        refine X_then ?_
        refine W_seq ?_
        refine W_region ?_
        refine WO_one rfl (One_load_own (d := 73) (t := 24) (x := (.tmp 11)) (.agg #[.slice a4 (List.length o3.2) c4]) (by kernel_rfl) rfl (show evL _ _ = some (.pointer (some ⟨b5, 0, none⟩)) from (by kernel_rfl)) st.head (by kernel_rfl) ?_)
        refine WO_seg 1 [(74, .slice a3 (List.length o3.1) c3)] (by kernel_rfl) (by kernel_rfl) ?_
        have st := st.front1
        refine WO_one rfl (One_store (t := 24) (x := (.tmp 4)) (y := (.tmp 73)) (v := .agg #[.slice a4 (List.length o3.2) c4]) (c' := #[.slice a4 (List.length o3.2) c4]) (by kernel_rfl) (show evL _ _ = some (.pointer (some ⟨b2, 0, none⟩)) from (by kernel_rfl)) (show evL _ _ = some (.agg #[.slice a4 (List.length o3.2) c4]) from (by kernel_rfl)) st (by kernel_rfl) (by kernel_rfl) ?_)
        clear st
        intro w22 st
        refine WO_seg 2 [(5, .slice a3 (List.length o3.1) c3), (6, .int .i64 0)] (by kernel_rfl) (by kernel_rfl) ?_
        refine WO_end rfl ?_
        refine X_then ?_
        refine W_ret ?_
        obtain rfl := Option.some.inj hr
        refine X_ret [.cell 4 24, .tmp 5, .tmp 6] [.agg #[.slice a4 (List.length o3.2) c4], .slice a3 (List.length o3.1) c3, .int .i64 0] rfl (ResAll.cons (ResAt.blk (v := .agg #[.slice a4 (List.length o3.2) c4]) (o := 0) (by kernel_rfl) st.head (by kernel_rfl)) (ResAll.cons (ResAt.tmp (by kernel_rfl)) (ResAll.cons (ResAt.tmp (by kernel_rfl)) ResAll.nil))) ?_
        have st := st.tail
        have st := st.tail
        have st := st.tail
        have st := st.front1
        exact ⟨a4, c4, a3, c3, m6, rfl, hm, st, r4, r3⟩
      intro K2_u3
      clear hrKu3
      have st := st.nilroom 3 1
      have st := st.nilroom 9 1
      have st := st.front1
      have st := st.front4
      have st := st.front4
      have st := st.front4
      refine W_env _ (by kernel_rfl) (W_loop (fun k2 L' w' => ∃ (s2 : List (Int) × Int × List (ByteArray)) (a5 : Option Addr) (c5 : Nat) (a6 : Option Addr) (c6 : Nat) (m7 : Mem), loopM (contents_Keep_L2 N p0 o1) k2 s2 = some out2 ∧ L' = [(4, .pointer (some ⟨b2, 0, none⟩)), (8, .slice (some ⟨b3, 0, none⟩) (Int.toNat (List.length p0 : Int)) (Int.toNat (List.length p0 : Int))), (11, .pointer (some ⟨b5, 0, none⟩)), (12, .slice a5 (List.length s2.1) c5), (45, .slice a1 (List.length p0) c1), (46, .int .i64 (List.length p0 : Int)), (47, .int .i64 s2.2.1)] ∧ m.le m7 ∧ St m7 (.blk b5 (.cells #[.slice a6 (List.length s2.2.2) c6] 24 (0, 0)) :: .blk b2 (.cells #[.slice none (List.length ([] : List (ByteArray))) 0] 24 (0, 0)) :: .blk b3 (.cells (acells (fun x : Bool => Value.bool x) o1 []) 4 (0, 0)) :: .room a5 (List.length s2.1) c5 3 1 :: .room a6 (List.length s2.2.2) c6 9 1 :: own) w' ∧ RepS (cInt .i64) m7 a5 c5 s2.1 ∧ RepS cStr m7 a1 c1 p0 ∧ RepS cStr m7 a6 c6 s2.2.2 ∧ List.length o1 = (Int.toNat (List.length p0 : Int))) N ⟨(([] : List (Int)), 0, ([] : List (ByteArray))), none, 0, none, 0, m3, hr, rfl, hm, st, (RepS.nil _ _), r1, (RepS.nil _ _), hn2⟩ ?_)
      clear st hr
      rintro k2 _ w13 ⟨s2, a5, c5, a6, c6, m7, hL, rfl, hm, st, r5, r1, r6, hn2⟩
      rcases k2 with _ | k2
      · exact loopM_zero hL
      · obtain ⟨qu3, hr, hSu3, hBu3⟩ := loopM_succ hL
        clear hL
        unfold contents_Keep_L2 at hr
        refine W_seq ?_
        refine W_region ?_
        refine WO_seg 1 [(48, .bool (decide (s2.2.1 < (List.length p0 : Int))))] (by kernel_rfl) (by kernel_rfl) ?_
        refine WO_end rfl ?_
        refine X_then ?_
        refine W_seq ?_
        refine W_cond (decide (s2.2.1 < (List.length p0 : Int))) (by kernel_rfl) ?_ ?_
        · intro hc
          rw [if_pos hc] at hr
          refine W_skip ?_
          refine X_then ?_
          refine W_seq ?_
          replace hr := bindS hr
          obtain ⟨o4, hr, hrKu4⟩ := hr
          refine W_cut .normal (fun L' w' => ∃ (a7 : Option Addr) (c7 : Nat) (a8 : Option Addr) (c8 : Nat) (m8 : Mem), L' = [(4, .pointer (some ⟨b2, 0, none⟩)), (8, .slice (some ⟨b3, 0, none⟩) (Int.toNat (List.length p0 : Int)) (Int.toNat (List.length p0 : Int))), (11, .pointer (some ⟨b5, 0, none⟩)), (12, .slice a7 (List.length o4.1) c7), (45, .slice a1 (List.length p0) c1), (46, .int .i64 (List.length p0 : Int)), (47, .int .i64 s2.2.1)] ∧ m.le m8 ∧ St m8 (.blk b5 (.cells #[.slice a8 (List.length o4.2) c8] 24 (0, 0)) :: .blk b2 (.cells #[.slice none (List.length ([] : List (ByteArray))) 0] 24 (0, 0)) :: .blk b3 (.cells (acells (fun x : Bool => Value.bool x) o1 []) 4 (0, 0)) :: .room a7 (List.length o4.1) c7 3 1 :: .room a8 (List.length o4.2) c8 9 1 :: own) w' ∧ RepS (cInt .i64) m8 a7 c7 o4.1 ∧ RepS cStr m8 a1 c1 p0 ∧ RepS cStr m8 a8 c8 o4.2 ∧ List.length o1 = (Int.toNat (List.length p0 : Int))) ?_ ?_
          · clear hr st
            have hr := hrKu4
            clear hrKu4
            rintro _ w14 ⟨a7, c7, a8, c8, m8, rfl, hm, st, r7, r1, r8, hn2⟩
            refine X_then ?_
            refine W_region ?_
            refine WO_seg 2 [(47, .int .i64 (IntKind.wrap .i64 (s2.2.1 + 1)))] (by kernel_rfl) (by kernel_rfl) ?_
            refine WO_end rfl ?_
            obtain rfl := Option.some.inj hr
            have hL := hSu3 _ rfl
            have st := st.front4
            have st := st.front4
            have st := st.front4
            have st := st.front4
            have st := st.front4
            exact X_env _ (by kernel_rfl) (X_round k2 (Nat.lt_succ_self _) ⟨(o4.1, IntKind.wrap .i64 (s2.2.1 + 1), o4.2), a7, c7, a8, c8, m8, hL, rfl, hm, st, r7, r1, r8, hn2⟩)
          · intro Ku4
            clear hrKu4
            refine W_block ?_
            refine W_seq ?_
            refine W_region ?_
            refine WO_seg 1 [(49, .int .i64 s2.2.1)] (by kernel_rfl) (by kernel_rfl) ?_
            replace hr := bindS hr
            obtain ⟨x3, hx5, hr⟩ := hr
            refine WO_one rfl (One_index (d := 50) (t := 22) (e := 9) (x := (.tmp 45)) (y := (.tmp 47)) cStr (by kernel_rfl) rfl (show evL _ _ = some (.slice a1 (List.length p0) c1) from (by kernel_rfl)) (show evL _ _ = some (.int .i64 s2.2.1) from (by kernel_rfl)) (by kernel_rfl) r1 hx5 ?_)
            rintro b6 f2 cs2 rfl hq2
            refine WO_one rfl (One_load_row (d := 51) (t := 9) (x := (.tmp 50)) (.string x3) (by kernel_rfl) rfl (show evL _ _ = some (.pointer (some ⟨b6, f2, none⟩)) from (by kernel_rfl)) st hq2 (by kernel_rfl) ?_)
            refine WO_seg 2 [(13, .int .i64 s2.2.1), (14, .string x3)] (by kernel_rfl) (by kernel_rfl) ?_
            refine WO_end rfl ?_
            refine X_then ?_
            refine W_seq ?_
            refine W_seq ?_
            refine W_region ?_
            refine WO_seg 2 [(52, .slice (some ⟨b3, 0, none⟩) (Int.toNat (List.length p0 : Int)) (Int.toNat (List.length p0 : Int))), (53, .int .i64 s2.2.1)] (by kernel_rfl) (by kernel_rfl) ?_
            replace hr := bindS hr
            obtain ⟨x4, hx6, hr⟩ := hr
            refine WO_one rfl (One_arrIndex (d := 54) (t := 98) (e := 4) (x := (.tmp 52)) (y := (.tmp 53)) (by kernel_rfl) rfl (show evL _ _ = some (.slice (some ⟨b3, 0, none⟩) (Int.toNat (List.length p0 : Int)) (Int.toNat (List.length p0 : Int))) from (by kernel_rfl)) (show evL _ _ = some (.int .i64 s2.2.1) from (by kernel_rfl)) (by kernel_rfl) hn2 hx6 ?_)
            refine WO_one rfl (One_arrLoad (d := 55) (t := 4) (x := (.tmp 54)) (by kernel_rfl) rfl (show evL _ _ = some (.pointer (some ⟨b3, Int.toNat s2.2.1, none⟩)) from (by kernel_rfl)) st.tail.tail.head hx6 (by kernel_rfl) ?_)
            refine WO_seg 1 [(56, .bool (!x4))] (by kernel_rfl) (by kernel_rfl) ?_
            refine WO_end rfl ?_
            refine X_then ?_
            refine W_cond (!x4) (by kernel_rfl) ?_ ?_
            · intro hc
              rw [if_pos hc] at hr
              refine W_seq ?_
              refine W_region ?_
              refine WO_seg 1 [(57, .slice a5 (List.length s2.1) c5)] (by kernel_rfl) (by kernel_rfl) ?_
              refine WO_one rfl (One_buildSlice (d := 58) (t := 32) (e := 3) (len := 1) (parts := #[(0, (.const (.int .i64 (-1))))]) (cInt .i64) (xs := [(-1)]) [.int .i64 (-1)] (by kernel_rfl) rfl (fun _ => buildCells_run (by kernel_rfl) _) rfl rfl st ⟨[.int .i64 (-1)], _, rfl, rfl, rfl⟩ ?_)
              clear st
              intro b7 m9 w15 hle3 st r9
              have hm := Mem.le_trans hm hle3
              have r5 := r5.mono hle3
              have r1 := r1.mono hle3
              have r6 := r6.mono hle3
              have st := st.front4
              replace hr := bindS hr
              obtain ⟨l2, hx7, hr⟩ := hr
              refine WO_one rfl (One_append (d := 59) (t := 32) (u := 32) (e := 3) (by_ := 8) (x := (.tmp 57)) (y := (.tmp 58)) (cInt .i64) (by kernel_rfl) rfl (show evL _ _ = some (.slice a5 (List.length s2.1) c5) from (by kernel_rfl)) (show evL _ _ = some (.slice (some ⟨b7, 0, none⟩) (List.length ([(-1)])) 1) from (by kernel_rfl)) st (by kernel_rfl) (.inl (by kernel_rfl)) r5 r9.src hx7 ?_)
              clear st
              intro a9 c9 m10 w16 hle4 st r10
              have hm := Mem.le_trans hm hle4
              have r5 := r5.mono hle4
              have r1 := r1.mono hle4
              have r9 := r9.mono hle4
              have r6 := r6.mono hle4
              refine WO_seg 1 [(12, .slice a9 (List.length l2) c9)] (by kernel_rfl) (by kernel_rfl) ?_
              refine WO_end rfl ?_
              have st := st.front1
              have st := st.tail
              refine X_then ?_
              refine W_exit ?_
              refine X_then_exit ?_
              refine X_block_eq ?_
              obtain rfl := Option.some.inj hr
              have st := st.front4
              have st := st.front1
              have st := st.front4
              have st := st.front4
              have st := st.front4
              exact X_env _ (by kernel_rfl) (Ku4 _ _ ⟨a9, c9, a6, c6, m10, rfl, hm, st, r10, r1, r6, hn2⟩)
            · intro hc
              rw [if_neg (not_true hc)] at hr
              refine W_skip ?_
              refine X_then ?_
              refine W_seq ?_
              refine W_region ?_
              refine WO_seg 2 [(60, .slice a5 (List.length s2.1) c5), (61, .pointer (some ⟨b5, 0, none⟩))] (by kernel_rfl) (by kernel_rfl) ?_
              refine WO_one rfl (One_load_own (d := 62) (t := 22) (x := (.tmp 61)) (.slice a6 (List.length s2.2.2) c6) (by kernel_rfl) rfl (show evL _ _ = some (.pointer (some ⟨b5, 0, none⟩)) from (by kernel_rfl)) st.head (by kernel_rfl) ?_)
              refine WO_seg 1 [(63, .int .i64 (List.length s2.2.2 : Int))] (by kernel_rfl) (by kernel_rfl) ?_
              refine WO_one rfl (One_buildSlice (d := 64) (t := 32) (e := 3) (len := 1) (parts := #[(0, (.tmp 63))]) (cInt .i64) (xs := [(List.length s2.2.2 : Int)]) [.int .i64 (List.length s2.2.2 : Int)] (by kernel_rfl) rfl (fun _ => buildCells_run (by kernel_rfl) _) rfl rfl st ⟨[.int .i64 (List.length s2.2.2 : Int)], _, rfl, rfl, rfl⟩ ?_)
              clear st
              intro b8 m11 w17 hle5 st r11
              have hm := Mem.le_trans hm hle5
              have r5 := r5.mono hle5
              have r1 := r1.mono hle5
              have r6 := r6.mono hle5
              have st := st.front4
              replace hr := bindS hr
              obtain ⟨l3, hx8, hr⟩ := hr
              refine WO_one rfl (One_append (d := 65) (t := 32) (u := 32) (e := 3) (by_ := 8) (x := (.tmp 60)) (y := (.tmp 64)) (cInt .i64) (by kernel_rfl) rfl (show evL _ _ = some (.slice a5 (List.length s2.1) c5) from (by kernel_rfl)) (show evL _ _ = some (.slice (some ⟨b8, 0, none⟩) (List.length ([(List.length s2.2.2 : Int)])) 1) from (by kernel_rfl)) st (by kernel_rfl) (.inl (by kernel_rfl)) r5 r11.src hx8 ?_)
              clear st
              intro a10 c10 m12 w18 hle6 st r12
              have hm := Mem.le_trans hm hle6
              have r5 := r5.mono hle6
              have r1 := r1.mono hle6
              have r6 := r6.mono hle6
              have r11 := r11.mono hle6
              refine WO_seg 1 [(12, .slice a10 (List.length l3) c10)] (by kernel_rfl) (by kernel_rfl) ?_
              refine WO_end rfl ?_
              have st := st.front1
              have st := st.tail
              refine X_then ?_
              refine W_region ?_
              refine WO_seg 1 [(66, .pointer (some ⟨b5, 0, none⟩))] (by kernel_rfl) (by kernel_rfl) ?_
              refine WO_one rfl (One_load_own (d := 67) (t := 22) (x := (.tmp 66)) (.slice a6 (List.length s2.2.2) c6) (by kernel_rfl) rfl (show evL _ _ = some (.pointer (some ⟨b5, 0, none⟩)) from (by kernel_rfl)) st.tail.head (by kernel_rfl) ?_)
              refine WO_seg 1 [(68, .string x3)] (by kernel_rfl) (by kernel_rfl) ?_
              refine WO_one rfl (One_buildSlice (d := 69) (t := 22) (e := 9) (len := 1) (parts := #[(0, (.tmp 68))]) cStr (xs := [x3]) [.string x3] (by kernel_rfl) rfl (fun _ => buildCells_run (by kernel_rfl) _) rfl rfl st ⟨[.string x3], _, rfl, rfl, rfl⟩ ?_)
              clear st
              intro b9 m13 w19 hle7 st r13
              have hm := Mem.le_trans hm hle7
              have r12 := r12.mono hle7
              have r1 := r1.mono hle7
              have r6 := r6.mono hle7
              have st := st.front5
              replace hr := bindS hr
              obtain ⟨l4, hx9, hr⟩ := hr
              refine WO_one rfl (One_append (d := 70) (t := 22) (u := 22) (e := 9) (by_ := 16) (x := (.tmp 67)) (y := (.tmp 69)) cStr (by kernel_rfl) rfl (show evL _ _ = some (.slice a6 (List.length s2.2.2) c6) from (by kernel_rfl)) (show evL _ _ = some (.slice (some ⟨b9, 0, none⟩) (List.length ([x3])) 1) from (by kernel_rfl)) st (by kernel_rfl) (.inl (by kernel_rfl)) r6 r13.src hx9 ?_)
              clear st
              intro a11 c11 m14 w20 hle8 st r14
              have hm := Mem.le_trans hm hle8
              have r12 := r12.mono hle8
              have r1 := r1.mono hle8
              have r6 := r6.mono hle8
              have r13 := r13.mono hle8
              refine WO_seg 1 [(71, .pointer (some ⟨b5, 0, none⟩))] (by kernel_rfl) (by kernel_rfl) ?_
              have st := st.front3
              refine WO_one rfl (One_store (t := 22) (x := (.tmp 71)) (y := (.tmp 70)) (v := .slice a11 (List.length l4) c11) (c' := #[.slice a11 (List.length l4) c11]) (by kernel_rfl) (show evL _ _ = some (.pointer (some ⟨b5, 0, none⟩)) from (by kernel_rfl)) (show evL _ _ = some (.slice a11 (List.length l4) c11) from (by kernel_rfl)) st (by kernel_rfl) (by kernel_rfl) ?_)
              clear st
              intro w21 st
              refine WO_end rfl ?_
              have st := st.front2
              have st := st.tail
              refine X_block ?_
              obtain rfl := Option.some.inj hr
              have st := st.front1
              have st := st.front2
              have st := st.front4
              have st := st.front4
              have st := st.front4
              exact X_env _ (by kernel_rfl) (Ku4 _ _ ⟨a10, c10, a11, c11, m14, rfl, hm, st, r12, r1, r14, hn2⟩)
        · intro hc
          rw [if_neg (not_true hc)] at hr
          refine W_exit ?_
          refine X_then_exit ?_
          obtain rfl := Option.some.inj hr
          have ho := hBu3 _ rfl
          have st := st.front4
          have st := st.front4
          have st := st.front4
          have st := st.front4
          have st := st.front4
          refine X_then_exit ?_
          exact X_env _ (by kernel_rfl) (K2_u3 _ _ ⟨(s2.1, s2.2.2), a5, c5, a6, c6, m7, ho, rfl, hm, st, r5, r6, hn2⟩)
    intro K0_u1
    have st := st.front1
    refine W_env _ (by kernel_rfl) (W_loop (fun k1 L' w' => ∃ (s1 : Int × List (Bool)) (m4 : Mem), loopM (contents_Keep_L1 N p0 p1) k1 s1 = some out1 ∧ L' = [(2, .pointer (some ⟨b1, 0, none⟩)), (4, .pointer (some ⟨b2, 0, none⟩)), (8, .slice (some ⟨b3, 0, none⟩) (Int.toNat (List.length p0 : Int)) (Int.toNat (List.length p0 : Int))), (25, .slice a2 (List.length p1) c2), (26, .int .i64 (List.length p1 : Int)), (27, .int .i64 s1.1)] ∧ m.le m4 ∧ St m4 (.blk b2 (.cells #[.slice none (List.length ([] : List (ByteArray))) 0] 24 (0, 0)) :: .blk b3 (.cells (acells (fun x : Bool => Value.bool x) s1.2 []) 4 (0, 0)) :: own) w' ∧ MRow m4 b1 0 [.slice a1 (List.length p0) c1] ∧ RepS cStr m4 a1 c1 p0 ∧ RepS (cInt .i64) m4 a2 c2 p1 ∧ List.length s1.2 = (Int.toNat (List.length p0 : Int))) N ⟨(0, l1), m2, hr, rfl, hm, st, hb1, r1, r2, hn1⟩ ?_)
    clear st hr
    rintro k1 _ w7 ⟨s1, m4, hL, rfl, hm, st, hb1, r1, r2, hn3⟩
    rcases k1 with _ | k1
    · exact loopM_zero hL
    · obtain ⟨qu1, hr, hSu1, hBu1⟩ := loopM_succ hL
      clear hL
      unfold contents_Keep_L1 at hr
      refine W_seq ?_
      refine W_region ?_
      refine WO_seg 1 [(28, .bool (decide (s1.1 < (List.length p1 : Int))))] (by kernel_rfl) (by kernel_rfl) ?_
      refine WO_end rfl ?_
      refine X_then ?_
      refine W_seq ?_
      refine W_cond (decide (s1.1 < (List.length p1 : Int))) (by kernel_rfl) ?_ ?_
      · intro hc
        rw [if_pos hc] at hr
        refine W_skip ?_
        refine X_then ?_
        refine W_seq ?_
        refine W_block ?_
        refine W_seq ?_
        refine W_region ?_
        replace hr := bindS hr
        obtain ⟨x1, hx3, hr⟩ := hr
        refine WO_one rfl (One_index (d := 29) (t := 32) (e := 3) (x := (.tmp 25)) (y := (.tmp 27)) (cInt .i64) (by kernel_rfl) rfl (show evL _ _ = some (.slice a2 (List.length p1) c2) from (by kernel_rfl)) (show evL _ _ = some (.int .i64 s1.1) from (by kernel_rfl)) (by kernel_rfl) r2 hx3 ?_)
        rintro b4 f1 cs1 rfl hq1
        refine WO_one rfl (One_load_row (d := 30) (t := 3) (x := (.tmp 29)) (.int .i64 x1) (by kernel_rfl) rfl (show evL _ _ = some (.pointer (some ⟨b4, f1, none⟩)) from (by kernel_rfl)) st hq1 (by kernel_rfl) ?_)
        refine WO_seg 1 [(10, .int .i64 x1)] (by kernel_rfl) (by kernel_rfl) ?_
        refine WO_end rfl ?_
        refine X_then ?_
        refine W_seq ?_
        refine W_seq ?_
        refine W_region ?_
        replace hr := bindS hr
        obtain ⟨o2, hr, hrK⟩ := hr
        refine WO_cut (j := 8) (fun L' w' => ∃ (m5 : Mem), L' = [(2, .pointer (some ⟨b1, 0, none⟩)), (4, .pointer (some ⟨b2, 0, none⟩)), (8, .slice (some ⟨b3, 0, none⟩) (Int.toNat (List.length p0 : Int)) (Int.toNat (List.length p0 : Int))), (10, .int .i64 x1), (25, .slice a2 (List.length p1) c2), (26, .int .i64 (List.length p1 : Int)), (27, .int .i64 s1.1), (38, .bool o2)] ∧ m.le m5 ∧ St m5 (.blk b2 (.cells #[.slice none (List.length ([] : List (ByteArray))) 0] 24 (0, 0)) :: .blk b3 (.cells (acells (fun x : Bool => Value.bool x) s1.2 []) 4 (0, 0)) :: own) w' ∧ MRow m5 b1 0 [.slice a1 (List.length p0) c1] ∧ RepS cStr m5 a1 c1 p0 ∧ RepS (cInt .i64) m5 a2 c2 p1 ∧ List.length s1.2 = (Int.toNat (List.length p0 : Int))) ?_ ?_
        · clear hr st
          have hr := hrK
          clear hrK
          rintro _ w8 ⟨m5, rfl, hm, st, hb1, r1, r2, hn3⟩
          refine WO_end rfl ?_
          refine X_then ?_
          refine W_cond o2 (by kernel_rfl) ?_ ?_
          · intro hc
            rw [if_pos hc] at hr
            refine W_seq ?_
            refine W_region ?_
            refine WO_seg 1 [(39, .agg #[.slice none (List.length ([] : List (ByteArray))) 0])] (by kernel_rfl) (by kernel_rfl) ?_
            refine WO_one rfl (One_store (t := 24) (x := (.tmp 4)) (y := (.tmp 39)) (v := .agg #[.slice none (List.length ([] : List (ByteArray))) 0]) (c' := #[.slice none (List.length ([] : List (ByteArray))) 0]) (by kernel_rfl) (show evL _ _ = some (.pointer (some ⟨b2, 0, none⟩)) from (by kernel_rfl)) (show evL _ _ = some (.agg #[.slice none (List.length ([] : List (ByteArray))) 0]) from (by kernel_rfl)) st (by kernel_rfl) (by kernel_rfl) ?_)
            clear st
            intro w9 st
            refine WO_seg 2 [(5, .slice none (List.length ([] : List (Int))) 0), (6, .int .i64 20)] (by kernel_rfl) (by kernel_rfl) ?_
            refine WO_end rfl ?_
            refine X_then ?_
            refine W_ret ?_
            refine X_then_ret ?_
            refine X_block_ret ?_
            refine X_then_ret ?_
            obtain rfl := Option.some.inj hr
            have ho := hBu1 _ rfl
            subst ho
            have hr := hrKu1
            dsimp only at hr
            refine X_then_ret ?_
            refine X_block_ret ?_
            refine X_then_ret ?_
            obtain rfl := Option.some.inj hr
            refine X_ret [.cell 4 24, .tmp 5, .tmp 6] [.agg #[.slice none (List.length ([] : List (ByteArray))) 0], .slice none (List.length ([] : List (Int))) 0, .int .i64 20] rfl (ResAll.cons (ResAt.blk (v := .agg #[.slice none (List.length ([] : List (ByteArray))) 0]) (o := 0) (by kernel_rfl) st.head (by kernel_rfl)) (ResAll.cons (ResAt.tmp (by kernel_rfl)) (ResAll.cons (ResAt.tmp (by kernel_rfl)) ResAll.nil))) ?_
            have st := st.nilroom 9 1
            have st := st.nilroom 3 1
            have st := st.front2
            have st := st.tail
            have st := st.front2
            have st := st.tail
            have st := st.front1
            exact ⟨none, 0, none, 0, m5, rfl, hm, st, (RepS.nil _ _), (RepS.nil _ _)⟩
          · intro hc
            rw [if_neg (not_true hc)] at hr
            refine W_skip ?_
            refine X_then ?_
            refine W_region ?_
            refine WO_seg 2 [(40, .slice (some ⟨b3, 0, none⟩) (Int.toNat (List.length p0 : Int)) (Int.toNat (List.length p0 : Int))), (41, .int .i64 x1)] (by kernel_rfl) (by kernel_rfl) ?_
            replace hr := bindS hr
            obtain ⟨x2, hx4, hr⟩ := hr
            refine WO_one rfl (One_arrIndex (d := 42) (t := 98) (e := 4) (x := (.tmp 40)) (y := (.tmp 41)) (by kernel_rfl) rfl (show evL _ _ = some (.slice (some ⟨b3, 0, none⟩) (Int.toNat (List.length p0 : Int)) (Int.toNat (List.length p0 : Int))) from (by kernel_rfl)) (show evL _ _ = some (.int .i64 x1) from (by kernel_rfl)) (by kernel_rfl) hn3 hx4 ?_)
            have st := st.front1
            refine WO_one rfl (One_arrStore (f := (fun x : Bool => Value.bool x)) (u := true) (t := 4) (x := (.tmp 42)) (y := (.const (.bool true))) (by kernel_rfl) (show evL _ _ = some (.pointer (some ⟨b3, Int.toNat x1, none⟩)) from (by kernel_rfl)) (show evL _ _ = some (.bool true) from (by kernel_rfl)) st hx4 rfl (by kernel_rfl) ?_)
            clear st
            intro w10 st
            have hn4 : List.length (List.set s1.2 (Int.toNat x1) true) = (Int.toNat (List.length p0 : Int)) := set_len hn3 _ _
            refine WO_end rfl ?_
            refine X_block ?_
            refine X_then ?_
            refine W_region ?_
            refine WO_seg 2 [(27, .int .i64 (IntKind.wrap .i64 (s1.1 + 1)))] (by kernel_rfl) (by kernel_rfl) ?_
            refine WO_end rfl ?_
            obtain rfl := Option.some.inj hr
            have hL := hSu1 _ rfl
            have st := st.front1
            exact X_env _ (by kernel_rfl) (X_round k1 (Nat.lt_succ_self _) ⟨(IntKind.wrap .i64 (s1.1 + 1), List.set s1.2 (Int.toNat x1) true), m5, hL, rfl, hm, st, hb1, r1, r2, hn4⟩)
        · intro K
          clear hrK
          refine WO_seg 3 [(33, .bool (decide (x1 < 0)))] (by kernel_rfl) (by kernel_rfl) ?_
          rcases bcases (decide (x1 < 0)) with hc | hc
          · rw [if_pos hc] at hr
            refine WO_fact (t := 33) (b := true) (decide (x1 < 0)) (by kernel_rfl) hc ?_
            refine WO_seg 5 [(38, .bool true)] (by kernel_rfl) (by kernel_rfl) ?_
            obtain rfl := Option.some.inj hr
            have st := st.front1
            have st := st.front1
            exact WO_env _ (by kernel_rfl) (K _ _ ⟨m4, rfl, hm, st, hb1, r1, r2, hn3⟩)
          · rw [if_neg (not_true hc)] at hr
            refine WO_fact (t := 33) (b := false) (decide (x1 < 0)) (by kernel_rfl) hc ?_
            refine WO_seg 5 [(38, .bool (decide (x1 ≥ ((Int.toNat (List.length p0 : Int)) : Int))))] (by kernel_rfl) (by kernel_rfl) ?_
            obtain rfl := Option.some.inj hr
            have st := st.front1
            have st := st.front1
            exact WO_env _ (by kernel_rfl) (K _ _ ⟨m4, rfl, hm, st, hb1, r1, r2, hn3⟩)
      · intro hc
        rw [if_neg (not_true hc)] at hr
        refine W_exit ?_
        refine X_then_exit ?_
        obtain rfl := Option.some.inj hr
        have ho := hBu1 _ rfl
        have st := st.front1
        have st := st.front1
        refine X_then_exit ?_
        exact X_env _ (by kernel_rfl) (K0_u1 _ _ ⟨s1.2, m4, ho, rfl, hm, st, hb1, r1, hn3⟩)

def testgatemake_HasInt_L1 (N : Nat) (p0 : List Int) (p1 : Int) (s1 : Int) : Option ((Int) ⊕ ((Unit) ⊕ (Bool))) :=
  if (decide (s1 < (List.length p0 : Int))) = true then ((idx p0 s1).bind fun x1 => if (x1 == p1) = true then (some (.inr (.inr (true)))) else (some (.inl (IntKind.wrap .i64 (s1 + 1))))) else (some (.inr (.inl ())))

def testgatemake_HasInt (N : Nat) (p0 : List Int) (p1 : Int) : Option (Bool) :=
  (loopM (testgatemake_HasInt_L1 N p0 p1) N 0).bind fun out1 => (match out1 with | .inl o1 => some false | .inr (z) => some z)

set_option maxHeartbeats 4000000 in
set_option maxRecDepth 100000 in
theorem testgatemake_HasInt_ok {N : Nat} {m : Mem} {own : List Piece} {w : World} {p0 : List Int} {p1 : Int} {a1 : Option Addr} {c1 : Nat} {r : Bool} (st : St m (own) w) (r1 : RepS (cInt .i64) m a1 c1 p0) (hr : testgatemake_HasInt N p0 p1 = some r) : Calls Go.Proofs.Try.prog 60 #[.slice a1 (List.length p0) c1, .int .i64 p1] w fun e w' => ∃ (m' : Mem), e = .returned (.bool r) ∧ m.le m' ∧ St m' (own) w' := by
  unfold testgatemake_HasInt at hr
  have hm := m.le_refl
  refine W_calls Go.Proofs.Try.func60 rfl Go.Proofs.Try.ntmps60 [(0, .slice a1 (List.length p0) c1), (1, .int .i64 p1)] (by kernel_rfl) rfl ?_
  refine W_seq ?_
  refine W_region ?_
  refine WO_seg 1 [] (by kernel_rfl) (by kernel_rfl) ?_
  refine WO_end rfl ?_
  refine X_then ?_
  refine W_seq ?_
  refine W_seq ?_
  refine W_region ?_
  refine WO_seg 1 [(5, .int .i64 0)] (by kernel_rfl) (by kernel_rfl) ?_
  refine WO_end rfl ?_
  refine X_then ?_
  refine W_block ?_
  replace hr := bindS hr
  obtain ⟨out1, hr, hrKu1⟩ := hr
  refine W_cut (.exit 0) (fun L' w' => ∃ (o1 : Unit) (m1 : Mem), (.inl o1) = out1 ∧ L' = [] ∧ m.le m1 ∧ St m1 (own) w') ?_ ?_
  · clear hr st
    rintro _ w1 ⟨o1, m1, rfl, rfl, hm, st⟩
    have hr := hrKu1
    clear hrKu1
    dsimp only at hr
    refine X_block_eq ?_
    refine X_then ?_
    refine W_seq ?_
    refine W_region ?_
    refine WO_seg 1 [(4, .bool false)] (by kernel_rfl) (by kernel_rfl) ?_
    refine WO_end rfl ?_
    refine X_then ?_
    refine W_ret ?_
    obtain rfl := Option.some.inj hr
    refine X_ret [.tmp 4] [.bool false] rfl (ResAll.cons (ResAt.tmp (by kernel_rfl)) ResAll.nil) ?_
    exact ⟨m1, rfl, hm, st⟩
  intro K0_u1
  refine W_env _ (by kernel_rfl) (W_loop (fun k1 L' w' => ∃ (s1 : Int) (m2 : Mem), loopM (testgatemake_HasInt_L1 N p0 p1) k1 s1 = some out1 ∧ L' = [(0, .slice a1 (List.length p0) c1), (1, .int .i64 p1), (5, .int .i64 s1)] ∧ m.le m2 ∧ St m2 (own) w' ∧ RepS (cInt .i64) m2 a1 c1 p0) N ⟨0, m, hr, rfl, hm, st, r1⟩ ?_)
  clear st hr
  rintro k1 _ w2 ⟨s1, m2, hL, rfl, hm, st, r1⟩
  rcases k1 with _ | k1
  · exact loopM_zero hL
  · obtain ⟨qu1, hr, hSu1, hBu1⟩ := loopM_succ hL
    clear hL
    unfold testgatemake_HasInt_L1 at hr
    refine W_seq ?_
    refine W_seq ?_
    refine W_region ?_
    refine WO_seg 4 [(9, .bool (decide (s1 < (List.length p0 : Int))))] (by kernel_rfl) (by kernel_rfl) ?_
    refine WO_end rfl ?_
    refine X_then ?_
    refine W_cond (decide (s1 < (List.length p0 : Int))) (by kernel_rfl) ?_ ?_
    · intro hc
      rw [if_pos hc] at hr
      refine W_skip ?_
      refine X_then ?_
      refine W_seq ?_
      refine W_block ?_
      refine W_seq ?_
      refine W_region ?_
      refine WO_seg 2 [(12, .slice a1 (List.length p0) c1), (13, .int .i64 s1)] (by kernel_rfl) (by kernel_rfl) ?_
      replace hr := bindS hr
      obtain ⟨x1, hx1, hr⟩ := hr
      refine WO_one rfl (One_index (d := 14) (t := 32) (e := 3) (x := (.tmp 12)) (y := (.tmp 13)) (cInt .i64) (by kernel_rfl) rfl (show evL _ _ = some (.slice a1 (List.length p0) c1) from (by kernel_rfl)) (show evL _ _ = some (.int .i64 s1) from (by kernel_rfl)) (by kernel_rfl) r1 hx1 ?_)
      rintro b1 f1 cs1 rfl hq1
      refine WO_one rfl (One_load_row (d := 15) (t := 3) (x := (.tmp 14)) (.int .i64 x1) (by kernel_rfl) rfl (show evL _ _ = some (.pointer (some ⟨b1, f1, none⟩)) from (by kernel_rfl)) st hq1 (by kernel_rfl) ?_)
      refine WO_seg 2 [(17, .bool (x1 == p1))] (by kernel_rfl) (by kernel_rfl) ?_
      refine WO_end rfl ?_
      refine X_then ?_
      refine W_cond (x1 == p1) (by kernel_rfl) ?_ ?_
      · intro hc
        rw [if_pos hc] at hr
        refine W_seq ?_
        refine W_region ?_
        refine WO_seg 1 [(4, .bool true)] (by kernel_rfl) (by kernel_rfl) ?_
        refine WO_end rfl ?_
        refine X_then ?_
        refine W_ret ?_
        refine X_block_ret ?_
        refine X_then_ret ?_
        obtain rfl := Option.some.inj hr
        have ho := hBu1 _ rfl
        subst ho
        have hr := hrKu1
        dsimp only at hr
        refine X_then_ret ?_
        refine X_block_ret ?_
        refine X_then_ret ?_
        obtain rfl := Option.some.inj hr
        refine X_ret [.tmp 4] [.bool true] rfl (ResAll.cons (ResAt.tmp (by kernel_rfl)) ResAll.nil) ?_
        exact ⟨m2, rfl, hm, st⟩
      · intro hc
        rw [if_neg (not_true hc)] at hr
        refine W_skip ?_
        refine X_block ?_
        refine X_then ?_
        refine W_region ?_
        refine WO_seg 3 [(5, .int .i64 (IntKind.wrap .i64 (s1 + 1)))] (by kernel_rfl) (by kernel_rfl) ?_
        refine WO_end rfl ?_
        obtain rfl := Option.some.inj hr
        have hL := hSu1 _ rfl
        exact X_env _ (by kernel_rfl) (X_round k1 (Nat.lt_succ_self _) ⟨IntKind.wrap .i64 (s1 + 1), m2, hL, rfl, hm, st, r1⟩)
    · intro hc
      rw [if_neg (not_true hc)] at hr
      refine W_exit ?_
      refine X_then_exit ?_
      obtain rfl := Option.some.inj hr
      have ho := hBu1 _ rfl
      refine X_then_exit ?_
      exact X_env _ (by kernel_rfl) (K0_u1 _ _ ⟨(), m2, ho, rfl, hm, st⟩)

def wire_PutUint_L1 (N : Nat) (s1 : Int × List (UInt8)) : Option ((Int × List (UInt8)) ⊕ ((Int × List (UInt8)))) :=
  if (decide (s1.1 ≥ 128)) = true then ((appendS 1 s1.2 ([toU8 (iOr .u8 (IntKind.wrap .u8 s1.1) 128)])).bind fun l2 => some (.inl (Int.fdiv s1.1 (2 ^ 7), l2))) else (some (.inr (s1.1, s1.2)))

def wire_PutUint (N : Nat) (p0 : List UInt8) (p1 : Int) : Option (List UInt8) :=
  (appendS 1 ([] : List (UInt8)) p0).bind fun l1 => (loopM (wire_PutUint_L1 N) N (p1, l1)).bind fun o1 => (appendS 1 o1.2 ([toU8 (IntKind.wrap .u8 o1.1)])).bind fun l3 => some l3

set_option maxHeartbeats 4000000 in
set_option maxRecDepth 100000 in
theorem wire_PutUint_ok {N : Nat} {m : Mem} {own : List Piece} {w : World} {p0 : List UInt8} {p1 : Int} {a1 : Option Addr} {c1 : Nat} {r : List UInt8} (st : St m (own) w) (r1 : RepS cU8 m a1 c1 p0) (hr : wire_PutUint N p0 p1 = some r) : Calls Go.Proofs.Try.prog 45 #[.slice a1 (List.length p0) c1, .int .u64 p1] w fun e w' => ∃ (ra1 : Option Addr) (rc1 : Nat) (m' : Mem), e = .returned (.slice ra1 (List.length r) rc1) ∧ m.le m' ∧ St m' (.room ra1 (List.length r) rc1 5 1 :: own) w' ∧ RepS cU8 m' ra1 rc1 r := by
  unfold wire_PutUint at hr
  have hm := m.le_refl
  refine W_calls Go.Proofs.Try.func45 rfl Go.Proofs.Try.ntmps45 [(0, .slice a1 (List.length p0) c1), (1, .int .u64 p1)] (by kernel_rfl) rfl ?_
  refine W_seq ?_
  refine W_region ?_
  refine WO_seg 1 [] (by kernel_rfl) (by kernel_rfl) ?_
  refine WO_end rfl ?_
  refine X_then ?_
  refine W_seq ?_
  refine W_region ?_
  refine WO_seg 1 [(6, .slice a1 (List.length p0) c1)] (by kernel_rfl) (by kernel_rfl) ?_
  have st := st.nilroom 5 1
  replace hr := bindS hr
  obtain ⟨l1, hx1, hr⟩ := hr
  refine WO_one rfl (One_append (d := 7) (t := 50) (u := 50) (e := 5) (by_ := 1) (x := (.const (.slice none 0 0))) (y := (.tmp 6)) cU8 (by kernel_rfl) rfl (show evL _ _ = some (.slice none (List.length ([] : List (UInt8))) 0) from (by kernel_rfl)) (show evL _ _ = some (.slice a1 (List.length p0) c1) from (by kernel_rfl)) st (by kernel_rfl) (.inl (by kernel_rfl)) (RepS.nil _ _) r1.src hx1 ?_)
  clear st
  intro a2 c2 m1 w1 hle1 st r2
  have hm := Mem.le_trans hm hle1
  have r1 := r1.mono hle1
  refine WO_seg 1 [(5, .slice a2 (List.length l1) c2)] (by kernel_rfl) (by kernel_rfl) ?_
  refine WO_end rfl ?_
  refine X_then ?_
  refine W_seq ?_
  refine W_block ?_
  replace hr := bindS hr
  obtain ⟨out1, hr, hrKu1⟩ := hr
  refine W_cut (.exit 0) (fun L' w' => ∃ (o1 : Int × List (UInt8)) (a3 : Option Addr) (c3 : Nat) (m2 : Mem), o1 = out1 ∧ L' = [(1, .int .u64 o1.1), (5, .slice a3 (List.length o1.2) c3)] ∧ m.le m2 ∧ St m2 (.room a3 (List.length o1.2) c3 5 1 :: own) w' ∧ RepS cU8 m2 a3 c3 o1.2) ?_ ?_
  · clear hr st
    rintro _ w2 ⟨o1, a3, c3, m2, rfl, rfl, hm, st, r3⟩
    have hr := hrKu1
    clear hrKu1
    refine X_block_eq ?_
    refine X_then ?_
    refine W_seq ?_
    refine W_region ?_
    refine WO_seg 3 [(18, .slice a3 (List.length o1.2) c3), (20, .int .u8 (IntKind.wrap .u8 o1.1))] (by kernel_rfl) (by kernel_rfl) ?_
    refine WO_one rfl (One_buildSlice (d := 21) (t := 50) (e := 5) (len := 1) (parts := #[(0, (.tmp 20))]) cU8 (xs := [toU8 (IntKind.wrap .u8 o1.1)]) [.int .u8 (IntKind.wrap .u8 o1.1)] (by kernel_rfl) rfl (fun _ => buildCells_run (by kernel_rfl) _) rfl rfl st ⟨[.int .u8 (IntKind.wrap .u8 o1.1)], _, rfl, (rep_u8_wrap _), rfl⟩ ?_)
    clear st
    intro b2 m6 w6 hle4 st r7
    have hm := Mem.le_trans hm hle4
    have r3 := r3.mono hle4
    have st := st.front1
    replace hr := bindS hr
    obtain ⟨l3, hx3, hr⟩ := hr
    refine WO_one rfl (One_append (d := 22) (t := 50) (u := 50) (e := 5) (by_ := 1) (x := (.tmp 18)) (y := (.tmp 21)) cU8 (by kernel_rfl) rfl (show evL _ _ = some (.slice a3 (List.length o1.2) c3) from (by kernel_rfl)) (show evL _ _ = some (.slice (some ⟨b2, 0, none⟩) (List.length ([toU8 (IntKind.wrap .u8 o1.1)])) 1) from (by kernel_rfl)) st (by kernel_rfl) (.inl (by kernel_rfl)) r3 r7.src hx3 ?_)
    clear st
    intro a6 c6 m7 w7 hle5 st r8
    have hm := Mem.le_trans hm hle5
    have r3 := r3.mono hle5
    have r7 := r7.mono hle5
    refine WO_seg 1 [(4, .slice a6 (List.length l3) c6)] (by kernel_rfl) (by kernel_rfl) ?_
    refine WO_end rfl ?_
    have st := st.front1
    have st := st.tail
    refine X_then ?_
    refine W_ret ?_
    obtain rfl := Option.some.inj hr
    refine X_ret [.tmp 4] [.slice a6 (List.length l3) c6] rfl (ResAll.cons (ResAt.tmp (by kernel_rfl)) ResAll.nil) ?_
    exact ⟨a6, c6, m7, rfl, hm, st, r8⟩
  intro K0_u1
  clear hrKu1
  refine W_env _ (by kernel_rfl) (W_loop (fun k1 L' w' => ∃ (s1 : Int × List (UInt8)) (a4 : Option Addr) (c4 : Nat) (m3 : Mem), loopM (wire_PutUint_L1 N) k1 s1 = some out1 ∧ L' = [(1, .int .u64 s1.1), (5, .slice a4 (List.length s1.2) c4)] ∧ m.le m3 ∧ St m3 (.room a4 (List.length s1.2) c4 5 1 :: own) w' ∧ RepS cU8 m3 a4 c4 s1.2) N ⟨(p1, l1), a2, c2, m1, hr, rfl, hm, st, r2⟩ ?_)
  clear st hr
  rintro k1 _ w3 ⟨s1, a4, c4, m3, hL, rfl, hm, st, r4⟩
  rcases k1 with _ | k1
  · exact loopM_zero hL
  · obtain ⟨qu1, hr, hSu1, hBu1⟩ := loopM_succ hL
    clear hL
    unfold wire_PutUint_L1 at hr
    refine W_seq ?_
    refine W_seq ?_
    refine W_region ?_
    refine WO_seg 2 [(9, .bool (decide (s1.1 ≥ 128)))] (by kernel_rfl) (by kernel_rfl) ?_
    refine WO_end rfl ?_
    refine X_then ?_
    refine W_cond (decide (s1.1 ≥ 128)) (by kernel_rfl) ?_ ?_
    · intro hc
      rw [if_pos hc] at hr
      refine W_skip ?_
      refine X_then ?_
      refine W_block ?_
      refine W_seq ?_
      refine W_region ?_
      refine WO_seg 4 [(10, .slice a4 (List.length s1.2) c4), (13, .int .u8 (iOr .u8 (IntKind.wrap .u8 s1.1) 128))] (by kernel_rfl) (by kernel_rfl) ?_
      refine WO_one rfl (One_buildSlice (d := 14) (t := 50) (e := 5) (len := 1) (parts := #[(0, (.tmp 13))]) cU8 (xs := [toU8 (iOr .u8 (IntKind.wrap .u8 s1.1) 128)]) [.int .u8 (iOr .u8 (IntKind.wrap .u8 s1.1) 128)] (by kernel_rfl) rfl (fun _ => buildCells_run (by kernel_rfl) _) rfl rfl st ⟨[.int .u8 (iOr .u8 (IntKind.wrap .u8 s1.1) 128)], _, rfl, (rep_u8_wrap _), rfl⟩ ?_)
      clear st
      intro b1 m4 w4 hle2 st r5
      have hm := Mem.le_trans hm hle2
      have r4 := r4.mono hle2
      have st := st.front1
      replace hr := bindS hr
      obtain ⟨l2, hx2, hr⟩ := hr
      refine WO_one rfl (One_append (d := 15) (t := 50) (u := 50) (e := 5) (by_ := 1) (x := (.tmp 10)) (y := (.tmp 14)) cU8 (by kernel_rfl) rfl (show evL _ _ = some (.slice a4 (List.length s1.2) c4) from (by kernel_rfl)) (show evL _ _ = some (.slice (some ⟨b1, 0, none⟩) (List.length ([toU8 (iOr .u8 (IntKind.wrap .u8 s1.1) 128)])) 1) from (by kernel_rfl)) st (by kernel_rfl) (.inl (by kernel_rfl)) r4 r5.src hx2 ?_)
      clear st
      intro a5 c5 m5 w5 hle3 st r6
      have hm := Mem.le_trans hm hle3
      have r4 := r4.mono hle3
      have r5 := r5.mono hle3
      refine WO_seg 1 [(5, .slice a5 (List.length l2) c5)] (by kernel_rfl) (by kernel_rfl) ?_
      refine WO_end rfl ?_
      have st := st.front1
      have st := st.tail
      refine X_then ?_
      refine W_region ?_
      refine WO_seg 3 [(1, .int .u64 (Int.fdiv s1.1 (2 ^ 7)))] (by kernel_rfl) (by kernel_rfl) ?_
      refine WO_end rfl ?_
      refine X_block ?_
      obtain rfl := Option.some.inj hr
      have hL := hSu1 _ rfl
      exact X_env _ (by kernel_rfl) (X_round k1 (Nat.lt_succ_self _) ⟨(Int.fdiv s1.1 (2 ^ 7), l2), a5, c5, m5, hL, rfl, hm, st, r6⟩)
    · intro hc
      rw [if_neg (not_true hc)] at hr
      refine W_exit ?_
      refine X_then_exit ?_
      obtain rfl := Option.some.inj hr
      have ho := hBu1 _ rfl
      refine X_then_exit ?_
      exact X_env _ (by kernel_rfl) (K0_u1 _ _ ⟨(s1.1, s1.2), a4, c4, m3, ho, rfl, hm, st, r4⟩)

def wire_Checksum_L1 (N : Nat) (p0 : List UInt8) (s1 : Int × Int × Int) : Option ((Int × Int × Int) ⊕ ((Int × Int))) :=
  if (decide (s1.2.2 < (List.length p0 : Int))) = true then ((idx p0 s1.2.2).bind fun x1 => some (.inl (Int.tmod (IntKind.wrap .u32 (s1.1 + (IntKind.wrap .u32 (x1.toNat : Int)))) 65521, Int.tmod (IntKind.wrap .u32 (s1.2.1 + (Int.tmod (IntKind.wrap .u32 (s1.1 + (IntKind.wrap .u32 (x1.toNat : Int)))) 65521))) 65521, IntKind.wrap .i64 (s1.2.2 + 1)))) else (some (.inr (s1.1, s1.2.1)))

def wire_Checksum (N : Nat) (p0 : List UInt8) : Option (Int) :=
  (loopM (wire_Checksum_L1 N p0) N (1, 0, 0)).bind fun o1 => some (IntKind.wrap .u32 (o1.1 + (IntKind.wrap .u32 (o1.2 * 2 ^ 16))))

set_option maxHeartbeats 4000000 in
set_option maxRecDepth 100000 in
theorem wire_Checksum_ok {N : Nat} {m : Mem} {own : List Piece} {w : World} {p0 : List UInt8} {a1 : Option Addr} {c1 : Nat} {r : Int} (st : St m (own) w) (r1 : RepS cU8 m a1 c1 p0) (hr : wire_Checksum N p0 = some r) : Calls Go.Proofs.Try.prog 34 #[.slice a1 (List.length p0) c1] w fun e w' => ∃ (m' : Mem), e = .returned (.int .u32 r) ∧ m.le m' ∧ St m' (own) w' := by
  unfold wire_Checksum at hr
  have hm := m.le_refl
  refine W_calls Go.Proofs.Try.func34 rfl Go.Proofs.Try.ntmps34 [(0, .slice a1 (List.length p0) c1)] (by kernel_rfl) rfl ?_
  refine W_seq ?_
  refine W_region ?_
  refine WO_seg 1 [] (by kernel_rfl) (by kernel_rfl) ?_
  refine WO_end rfl ?_
  refine X_then ?_
  refine W_seq ?_
  refine W_region ?_
  refine WO_seg 2 [(3, .int .u32 1), (4, .int .u32 0)] (by kernel_rfl) (by kernel_rfl) ?_
  refine WO_end rfl ?_
  refine X_then ?_
  refine W_seq ?_
  refine W_seq ?_
  refine W_region ?_
  refine WO_seg 3 [(7, .slice a1 (List.length p0) c1), (8, .int .i64 (List.length p0 : Int)), (9, .int .i64 0)] (by kernel_rfl) (by kernel_rfl) ?_
  refine WO_end rfl ?_
  refine X_then ?_
  refine W_block ?_
  replace hr := bindS hr
  obtain ⟨out1, hr, hrKu1⟩ := hr
  refine W_cut (.exit 0) (fun L' w' => ∃ (o1 : Int × Int) (m1 : Mem), o1 = out1 ∧ L' = [(3, .int .u32 o1.1), (4, .int .u32 o1.2)] ∧ m.le m1 ∧ St m1 (own) w') ?_ ?_
  · clear hr st
    rintro _ w1 ⟨o1, m1, rfl, rfl, hm, st⟩
    have hr := hrKu1
    clear hrKu1
    refine X_block_eq ?_
    refine X_then ?_
    refine W_seq ?_
    refine W_region ?_
    refine WO_seg 5 [(2, .int .u32 (IntKind.wrap .u32 (o1.1 + (IntKind.wrap .u32 (o1.2 * 2 ^ 16)))))] (by kernel_rfl) (by kernel_rfl) ?_
    refine WO_end rfl ?_
    refine X_then ?_
    refine W_ret ?_
    obtain rfl := Option.some.inj hr
    refine X_ret [.tmp 2] [.int .u32 (IntKind.wrap .u32 (o1.1 + (IntKind.wrap .u32 (o1.2 * 2 ^ 16))))] rfl (ResAll.cons (ResAt.tmp (by kernel_rfl)) ResAll.nil) ?_
    exact ⟨m1, rfl, hm, st⟩
  intro K0_u1
  clear hrKu1
  refine W_env _ (by kernel_rfl) (W_loop (fun k1 L' w' => ∃ (s1 : Int × Int × Int) (m2 : Mem), loopM (wire_Checksum_L1 N p0) k1 s1 = some out1 ∧ L' = [(3, .int .u32 s1.1), (4, .int .u32 s1.2.1), (7, .slice a1 (List.length p0) c1), (8, .int .i64 (List.length p0 : Int)), (9, .int .i64 s1.2.2)] ∧ m.le m2 ∧ St m2 (own) w' ∧ RepS cU8 m2 a1 c1 p0) N ⟨(1, 0, 0), m, hr, rfl, hm, st, r1⟩ ?_)
  clear st hr
  rintro k1 _ w2 ⟨s1, m2, hL, rfl, hm, st, r1⟩
  rcases k1 with _ | k1
  · exact loopM_zero hL
  · obtain ⟨qu1, hr, hSu1, hBu1⟩ := loopM_succ hL
    clear hL
    unfold wire_Checksum_L1 at hr
    refine W_seq ?_
    refine W_region ?_
    refine WO_seg 1 [(10, .bool (decide (s1.2.2 < (List.length p0 : Int))))] (by kernel_rfl) (by kernel_rfl) ?_
    refine WO_end rfl ?_
    refine X_then ?_
    refine W_seq ?_
    refine W_cond (decide (s1.2.2 < (List.length p0 : Int))) (by kernel_rfl) ?_ ?_
    · intro hc
      rw [if_pos hc] at hr
      refine W_skip ?_
      refine X_then ?_
      refine W_seq ?_
      refine W_block ?_
      refine W_seq ?_
      refine W_region ?_
      replace hr := bindS hr
      obtain ⟨x1, hx1, hr⟩ := hr
      refine WO_one rfl (One_index (d := 11) (t := 50) (e := 5) (x := (.tmp 7)) (y := (.tmp 9)) cU8 (by kernel_rfl) rfl (show evL _ _ = some (.slice a1 (List.length p0) c1) from (by kernel_rfl)) (show evL _ _ = some (.int .i64 s1.2.2) from (by kernel_rfl)) (by kernel_rfl) r1 hx1 ?_)
      rintro b1 f1 cs1 rfl hq1
      refine WO_one rfl (One_load_row (d := 12) (t := 5) (x := (.tmp 11)) (.int .u8 (x1.toNat : Int)) (by kernel_rfl) rfl (show evL _ _ = some (.pointer (some ⟨b1, f1, none⟩)) from (by kernel_rfl)) st hq1 (by kernel_rfl) ?_)
      refine WO_seg 1 [(6, .int .u8 (x1.toNat : Int))] (by kernel_rfl) (by kernel_rfl) ?_
      refine WO_end rfl ?_
      refine X_then ?_
      refine W_seq ?_
      refine W_region ?_
      refine WO_seg 6 [(3, .int .u32 (Int.tmod (IntKind.wrap .u32 (s1.1 + (IntKind.wrap .u32 (x1.toNat : Int)))) 65521))] (by kernel_rfl) (by kernel_rfl) ?_
      refine WO_end rfl ?_
      refine X_then ?_
      refine W_region ?_
      refine WO_seg 5 [(4, .int .u32 (Int.tmod (IntKind.wrap .u32 (s1.2.1 + (Int.tmod (IntKind.wrap .u32 (s1.1 + (IntKind.wrap .u32 (x1.toNat : Int)))) 65521))) 65521))] (by kernel_rfl) (by kernel_rfl) ?_
      refine WO_end rfl ?_
      refine X_block ?_
      refine X_then ?_
      refine W_region ?_
      refine WO_seg 2 [(9, .int .i64 (IntKind.wrap .i64 (s1.2.2 + 1)))] (by kernel_rfl) (by kernel_rfl) ?_
      refine WO_end rfl ?_
      obtain rfl := Option.some.inj hr
      have hL := hSu1 _ rfl
      exact X_env _ (by kernel_rfl) (X_round k1 (Nat.lt_succ_self _) ⟨(Int.tmod (IntKind.wrap .u32 (s1.1 + (IntKind.wrap .u32 (x1.toNat : Int)))) 65521, Int.tmod (IntKind.wrap .u32 (s1.2.1 + (Int.tmod (IntKind.wrap .u32 (s1.1 + (IntKind.wrap .u32 (x1.toNat : Int)))) 65521))) 65521, IntKind.wrap .i64 (s1.2.2 + 1)), m2, hL, rfl, hm, st, r1⟩)
    · intro hc
      rw [if_neg (not_true hc)] at hr
      refine W_exit ?_
      refine X_then_exit ?_
      obtain rfl := Option.some.inj hr
      have ho := hBu1 _ rfl
      refine X_then_exit ?_
      exact X_env _ (by kernel_rfl) (K0_u1 _ _ ⟨(s1.1, s1.2.1), m2, ho, rfl, hm, st⟩)

def wire_Frame (N : Nat) (p0 : Int × List UInt8) : Option (List UInt8 × Int) :=
  (if (decide (p0.1 < 1)) = true then (some true) else (some (decide (p0.1 > 255))) : Option (Bool)).bind fun o1 => if o1 = true then (some (([] : List (UInt8)), 3)) else (if (decide ((List.length p0.2 : Int) > 2097152)) = true then (some (([] : List (UInt8)), 2)) else ((wire_PutUint N ([(247 : UInt8), toU8 (IntKind.wrap .u8 p0.1)]) (IntKind.wrap .u64 (List.length p0.2 : Int))).bind fun y1 => (appendS 1 y1 p0.2).bind fun l1 => (subS l1 1 (List.length l1 : Int)).bind fun l2 => (wire_Checksum N l2).bind fun y2 => (appendS 1 l1 ([toU8 (IntKind.wrap .u8 y2), toU8 (IntKind.wrap .u8 (Int.fdiv y2 (2 ^ 8))), toU8 (IntKind.wrap .u8 (Int.fdiv y2 (2 ^ 16))), toU8 (IntKind.wrap .u8 (Int.fdiv y2 (2 ^ 24)))])).bind fun l3 => some (l3, 0)))

set_option maxHeartbeats 4000000 in
set_option maxRecDepth 100000 in
theorem wire_Frame_ok {N : Nat} {m : Mem} {own : List Piece} {w : World} {p0 : Int × List UInt8} {a1 : Option Addr} {c1 : Nat} {r : List UInt8 × Int} (st : St m (own) w) (r1 : RepS cU8 m a1 c1 p0.2) (hr : wire_Frame N p0 = some r) : Calls Go.Proofs.Try.prog 31 #[.agg #[.int .i64 p0.1, .slice a1 (List.length p0.2) c1]] w fun e w' => ∃ (ra1 : Option Addr) (rc1 : Nat) (m' : Mem), e = .returned (.tuple #[.slice ra1 (List.length r.1) rc1, .int .i64 r.2]) ∧ m.le m' ∧ St m' (.room ra1 (List.length r.1) rc1 5 1 :: own) w' ∧ RepS cU8 m' ra1 rc1 r.1 := by
  unfold wire_Frame at hr
  have hm := m.le_refl
  refine W_calls Go.Proofs.Try.func31 rfl Go.Proofs.Try.ntmps31 [(0, .agg #[.int .i64 p0.1, .slice a1 (List.length p0.2) c1])] (by kernel_rfl) rfl ?_
  refine W_seq ?_
  refine W_region ?_
  refine WO_one rfl (One_box (d := 1) (e := 54) (x := (.tmp 0)) (.agg #[.int .i64 p0.1, .slice a1 (List.length p0.2) c1]) (by kernel_rfl) rfl (by kernel_rfl) st ?_)
  clear st
  intro b1 m1 w1 hle1 st hb1
  have hm := Mem.le_trans hm hle1
  have r1 := r1.mono hle1
  refine WO_seg 2 [] (by kernel_rfl) (by kernel_rfl) ?_
  refine WO_end rfl ?_
  refine X_then ?_
  refine W_seq ?_
  refine W_seq ?_
  refine W_region ?_
  replace hr := bindS hr
  obtain ⟨o1, hr, hrK⟩ := hr
  refine WO_cut (j := 8) (fun L' w' => ∃ (m2 : Mem), L' = [(1, .pointer (some ⟨b1, 0, none⟩)), (13, .bool o1)] ∧ m.le m2 ∧ St m2 (own) w' ∧ MRow m2 b1 0 [.int .i64 p0.1, .slice a1 (List.length p0.2) c1] ∧ RepS cU8 m2 a1 c1 p0.2) ?_ ?_
  · clear hr st
    have hr := hrK
    clear hrK
    rintro _ w2 ⟨m2, rfl, hm, st, hb1, r1⟩
    refine WO_end rfl ?_
    refine X_then ?_
    refine W_cond o1 (by kernel_rfl) ?_ ?_
    · intro hc
      rw [if_pos hc] at hr
      refine W_seq ?_
      refine W_region ?_
      refine WO_seg 2 [(2, .slice none (List.length ([] : List (UInt8))) 0), (3, .int .i64 3)] (by kernel_rfl) (by kernel_rfl) ?_
      refine WO_end rfl ?_
      refine X_then ?_
      refine W_ret ?_
      refine X_then_ret ?_
      obtain rfl := Option.some.inj hr
      refine X_ret [.tmp 2, .tmp 3] [.slice none (List.length ([] : List (UInt8))) 0, .int .i64 3] rfl (ResAll.cons (ResAt.tmp (by kernel_rfl)) (ResAll.cons (ResAt.tmp (by kernel_rfl)) ResAll.nil)) ?_
      have st := st.nilroom 5 1
      exact ⟨none, 0, m2, rfl, hm, st, (RepS.nil _ _)⟩
    · intro hc
      rw [if_neg (not_true hc)] at hr
      refine W_skip ?_
      refine X_then ?_
      refine W_seq ?_
      refine W_seq ?_
      refine W_region ?_
      refine WO_seg 1 [(14, .pointer (some ⟨b1, 1, none⟩))] (by kernel_rfl) (by kernel_rfl) ?_
      refine WO_one rfl (One_load_row (d := 15) (t := 50) (x := (.tmp 14)) (.slice a1 (List.length p0.2) c1) (by kernel_rfl) rfl (show evL _ _ = some (.pointer (some ⟨b1, 1, none⟩)) from (by kernel_rfl)) st (hb1.drop 1) (by kernel_rfl) ?_)
      refine WO_seg 2 [(17, .bool (decide ((List.length p0.2 : Int) > 2097152)))] (by kernel_rfl) (by kernel_rfl) ?_
      refine WO_end rfl ?_
      refine X_then ?_
      refine W_cond (decide ((List.length p0.2 : Int) > 2097152)) (by kernel_rfl) ?_ ?_
      · intro hc
        rw [if_pos hc] at hr
        refine W_seq ?_
        refine W_region ?_
        refine WO_seg 2 [(2, .slice none (List.length ([] : List (UInt8))) 0), (3, .int .i64 2)] (by kernel_rfl) (by kernel_rfl) ?_
        refine WO_end rfl ?_
        refine X_then ?_
        refine W_ret ?_
        refine X_then_ret ?_
        obtain rfl := Option.some.inj hr
        refine X_ret [.tmp 2, .tmp 3] [.slice none (List.length ([] : List (UInt8))) 0, .int .i64 2] rfl (ResAll.cons (ResAt.tmp (by kernel_rfl)) (ResAll.cons (ResAt.tmp (by kernel_rfl)) ResAll.nil)) ?_
        have st := st.nilroom 5 1
        exact ⟨none, 0, m2, rfl, hm, st, (RepS.nil _ _)⟩
      · intro hc
        rw [if_neg (not_true hc)] at hr
        refine W_skip ?_
        refine X_then ?_
        refine W_seq ?_
        refine W_draw [(13, fun w' => Inv m2 w' ∧ True)] (by kernel_rfl) st ?_
        clear st
        intro w3 _ st
        have hmS := m2.le_refl
        refine ⟨⟨.inr ⟨Inv.anti st.inv hmS, trivial⟩, trivial⟩, ?_⟩
        refine WA_pure 0 18 (.pointer (some ⟨b1, 0, none⟩)) (by kernel_rfl) rfl (by kernel_rfl) (.head _) (QP_then QP_body) ?_
        refine WA_load_row (t := 3) (x := (.tmp 18)) 1 19 (.int .i64 p0.1) (by kernel_rfl) rfl (by kernel_rfl) (.head _) (QP_then QP_body) (fun _ h => h.1) (show evL _ _ = some (.pointer (some ⟨b1, 0, none⟩)) from (by kernel_rfl)) hb1 (by kernel_rfl) ?_
        refine WA_pure 2 20 (.int .u8 (IntKind.wrap .u8 p0.1)) (by kernel_rfl) rfl (by kernel_rfl) (.head _) (QP_then QP_body) ?_
        refine WA_pure 4 22 (.pointer (some ⟨b1, 1, none⟩)) (by kernel_rfl) rfl (by kernel_rfl) (.head _) (QP_then QP_body) ?_
        refine WA_load_row (t := 50) (x := (.tmp 22)) 5 23 (.slice a1 (List.length p0.2) c1) (by kernel_rfl) rfl (by kernel_rfl) (.head _) (QP_then QP_body) (fun _ h => h.1) (show evL _ _ = some (.pointer (some ⟨b1, 1, none⟩)) from (by kernel_rfl)) (hb1.drop 1) (by kernel_rfl) ?_
        refine WA_pure 6 24 (.int .i64 (List.length p0.2 : Int)) (by kernel_rfl) rfl (by kernel_rfl) (.head _) (QP_then QP_body) ?_
        refine WA_pure 7 25 (.int .u64 (IntKind.wrap .u64 (List.length p0.2 : Int))) (by kernel_rfl) rfl (by kernel_rfl) (.head _) (QP_then QP_body) ?_
        refine WA_pure 9 27 (.pointer (some ⟨b1, 1, none⟩)) (by kernel_rfl) rfl (by kernel_rfl) (.head _) (QP_then QP_body) ?_
        refine WA_load_row (t := 50) (x := (.tmp 27)) 10 28 (.slice a1 (List.length p0.2) c1) (by kernel_rfl) rfl (by kernel_rfl) (.head _) (QP_then QP_body) (fun _ h => h.1) (show evL _ _ = some (.pointer (some ⟨b1, 1, none⟩)) from (by kernel_rfl)) (hb1.drop 1) (by kernel_rfl) ?_
        refine WA_one 3 (by kernel_rfl) (One_buildSlice (d := 21) (t := 50) (e := 5) (len := 2) (parts := #[(0, (.const (.int .u8 247))), (1, (.tmp 20))]) cU8 (xs := [(247 : UInt8), toU8 (IntKind.wrap .u8 p0.1)]) [.int .u8 247, .int .u8 (IntKind.wrap .u8 p0.1)] (by kernel_rfl) rfl (fun _ => buildCells_run (by kernel_rfl) _) rfl rfl st ⟨[.int .u8 247], _, rfl, rfl, ⟨[.int .u8 (IntKind.wrap .u8 p0.1)], _, rfl, (rep_u8_wrap _), rfl⟩⟩ ?_)
        clear st
        intro b2 m3 w4 hle2 st r2
        have hm := Mem.le_trans hm hle2
        have hb1 := hb1.mono hle2
        have r1 := r1.mono hle2
        have hmS := Mem.le_trans hmS hle2
        refine ⟨⟨.inr ⟨Inv.anti st.inv hmS, trivial⟩, trivial⟩, ?_⟩
        replace hr := bindS hr
        obtain ⟨y1, hx1, hr⟩ := hr
        refine WA_one 8 (by kernel_rfl) (One_fn 26 45 #[.slice (some ⟨b2, 0, none⟩) (List.length ([(247 : UInt8), toU8 (IntKind.wrap .u8 p0.1)])) 2, .int .u64 (IntKind.wrap .u64 (List.length p0.2 : Int))] (by kernel_rfl) rfl ?_)
        refine (wire_PutUint_ok st r2 hx1).mono ?_
        clear st
        rintro _ w5 ⟨a2, c2, m4, rfl, hle3, st, r3⟩
        refine ⟨_, rfl, ?_⟩
        have hm := Mem.le_trans hm hle3
        have hb1 := hb1.mono hle3
        have r1 := r1.mono hle3
        have r2 := r2.mono hle3
        have hmS := Mem.le_trans hmS hle3
        refine ⟨⟨.inr ⟨Inv.anti st.inv hmS, trivial⟩, trivial⟩, ?_⟩
        replace hr := bindS hr
        obtain ⟨l1, hx2, hr⟩ := hr
        refine WA_one 11 (by kernel_rfl) (One_append (d := 29) (t := 50) (u := 50) (e := 5) (by_ := 1) (x := (.tmp 26)) (y := (.tmp 28)) cU8 (by kernel_rfl) rfl (show evL _ _ = some (.slice a2 (List.length y1) c2) from (by kernel_rfl)) (show evL _ _ = some (.slice a1 (List.length p0.2) c1) from (by kernel_rfl)) st (by kernel_rfl) (.inl (by kernel_rfl)) r3 r1.src hx2 ?_)
        clear st
        intro a3 c3 m5 w6 hle4 st r4
        have hm := Mem.le_trans hm hle4
        have hb1 := hb1.mono hle4
        have r1 := r1.mono hle4
        have r2 := r2.mono hle4
        have r3 := r3.mono hle4
        have hmS := Mem.le_trans hmS hle4
        refine ⟨⟨.inr ⟨Inv.anti st.inv hmS, trivial⟩, trivial⟩, ?_⟩
        refine WA_pure 12 4 (.slice a3 (List.length l1) c3) (by kernel_rfl) rfl (by kernel_rfl) (.head _) (QP_then QP_body) ?_
        refine WA_done (by kernel_rfl) ?_
        have st := st.front1
        have st := st.tail
        refine X_then ?_
        refine W_seq ?_
        refine W_region ?_
        refine WO_seg 1 [(30, .slice a3 (List.length l1) c3)] (by kernel_rfl) (by kernel_rfl) ?_
        replace hr := bindS hr
        obtain ⟨l2, hx3, hr⟩ := hr
        refine WO_one rfl (One_slice (d := 31) (t := 50) (e := 5) (x := (.tmp 30)) (lo := (some (.const (.int .i64 1)))) (hi := none) cU8 (by kernel_rfl) rfl (show evL _ _ = some (.slice a3 (List.length l1) c3) from (by kernel_rfl)) (by kernel_rfl) r4 (.inr ⟨_, _, rfl, (show evL _ _ = some (.int .i64 1) from (by kernel_rfl))⟩) (.inl ⟨rfl, rfl⟩) hx3 ?_)
        intro a4 c4 r5
        replace hr := bindS hr
        obtain ⟨y2, hx4, hr⟩ := hr
        refine WO_one rfl (One_fn 32 34 #[.slice a4 (List.length l2) c4] (by kernel_rfl) rfl ?_)
        refine (wire_Checksum_ok st r5 hx4).mono ?_
        clear st
        rintro _ w7 ⟨m6, rfl, hle5, st⟩
        refine ⟨_, rfl, ?_⟩
        have hm := Mem.le_trans hm hle5
        have r4 := r4.mono hle5
        have r5 := r5.mono hle5
        refine WO_seg 1 [(5, .int .u32 y2)] (by kernel_rfl) (by kernel_rfl) ?_
        refine WO_end rfl ?_
        refine X_then ?_
        refine W_seq ?_
        refine W_region ?_
        refine WO_seg 12 [(33, .slice a3 (List.length l1) c3), (35, .int .u8 (IntKind.wrap .u8 y2)), (38, .int .u8 (IntKind.wrap .u8 (Int.fdiv y2 (2 ^ 8)))), (41, .int .u8 (IntKind.wrap .u8 (Int.fdiv y2 (2 ^ 16)))), (44, .int .u8 (IntKind.wrap .u8 (Int.fdiv y2 (2 ^ 24))))] (by kernel_rfl) (by kernel_rfl) ?_
        refine WO_one rfl (One_buildSlice (d := 45) (t := 50) (e := 5) (len := 4) (parts := #[(0, (.tmp 35)), (1, (.tmp 38)), (2, (.tmp 41)), (3, (.tmp 44))]) cU8 (xs := [toU8 (IntKind.wrap .u8 y2), toU8 (IntKind.wrap .u8 (Int.fdiv y2 (2 ^ 8))), toU8 (IntKind.wrap .u8 (Int.fdiv y2 (2 ^ 16))), toU8 (IntKind.wrap .u8 (Int.fdiv y2 (2 ^ 24)))]) [.int .u8 (IntKind.wrap .u8 y2), .int .u8 (IntKind.wrap .u8 (Int.fdiv y2 (2 ^ 8))), .int .u8 (IntKind.wrap .u8 (Int.fdiv y2 (2 ^ 16))), .int .u8 (IntKind.wrap .u8 (Int.fdiv y2 (2 ^ 24)))] (by kernel_rfl) rfl (fun _ => buildCells_run (by kernel_rfl) _) rfl rfl st ⟨[.int .u8 (IntKind.wrap .u8 y2)], _, rfl, (rep_u8_wrap _), ⟨[.int .u8 (IntKind.wrap .u8 (Int.fdiv y2 (2 ^ 8)))], _, rfl, (rep_u8_wrap _), ⟨[.int .u8 (IntKind.wrap .u8 (Int.fdiv y2 (2 ^ 16)))], _, rfl, (rep_u8_wrap _), ⟨[.int .u8 (IntKind.wrap .u8 (Int.fdiv y2 (2 ^ 24)))], _, rfl, (rep_u8_wrap _), rfl⟩⟩⟩⟩ ?_)
        clear st
        intro b3 m7 w8 hle6 st r6
        have hm := Mem.le_trans hm hle6
        have r4 := r4.mono hle6
        have st := st.front1
        replace hr := bindS hr
        obtain ⟨l3, hx5, hr⟩ := hr
        refine WO_one rfl (One_append (d := 46) (t := 50) (u := 50) (e := 5) (by_ := 1) (x := (.tmp 33)) (y := (.tmp 45)) cU8 (by kernel_rfl) rfl (show evL _ _ = some (.slice a3 (List.length l1) c3) from (by kernel_rfl)) (show evL _ _ = some (.slice (some ⟨b3, 0, none⟩) (List.length ([toU8 (IntKind.wrap .u8 y2), toU8 (IntKind.wrap .u8 (Int.fdiv y2 (2 ^ 8))), toU8 (IntKind.wrap .u8 (Int.fdiv y2 (2 ^ 16))), toU8 (IntKind.wrap .u8 (Int.fdiv y2 (2 ^ 24)))])) 4) from (by kernel_rfl)) st (by kernel_rfl) (.inl (by kernel_rfl)) r4 r6.src hx5 ?_)
        clear st
        intro a5 c5 m8 w9 hle7 st r7
        have hm := Mem.le_trans hm hle7
        have r4 := r4.mono hle7
        have r6 := r6.mono hle7
        refine WO_seg 2 [(2, .slice a5 (List.length l3) c5), (3, .int .i64 0)] (by kernel_rfl) (by kernel_rfl) ?_
        refine WO_end rfl ?_
        have st := st.front1
        have st := st.tail
        refine X_then ?_
        refine W_ret ?_
        obtain rfl := Option.some.inj hr
        refine X_ret [.tmp 2, .tmp 3] [.slice a5 (List.length l3) c5, .int .i64 0] rfl (ResAll.cons (ResAt.tmp (by kernel_rfl)) (ResAll.cons (ResAt.tmp (by kernel_rfl)) ResAll.nil)) ?_
        exact ⟨a5, c5, m8, rfl, hm, st, r7⟩
  · intro K
    clear hrK
    refine WO_seg 1 [(6, .pointer (some ⟨b1, 0, none⟩))] (by kernel_rfl) (by kernel_rfl) ?_
    refine WO_one rfl (One_load_row (d := 7) (t := 3) (x := (.tmp 6)) (.int .i64 p0.1) (by kernel_rfl) rfl (show evL _ _ = some (.pointer (some ⟨b1, 0, none⟩)) from (by kernel_rfl)) st hb1 (by kernel_rfl) ?_)
    refine WO_seg 2 [(9, .bool (decide (p0.1 < 1)))] (by kernel_rfl) (by kernel_rfl) ?_
    rcases bcases (decide (p0.1 < 1)) with hc | hc
    · rw [if_pos hc] at hr
      refine WO_fact (t := 9) (b := true) (decide (p0.1 < 1)) (by kernel_rfl) hc ?_
      refine WO_seg 4 [(13, .bool true)] (by kernel_rfl) (by kernel_rfl) ?_
      obtain rfl := Option.some.inj hr
      exact WO_env _ (by kernel_rfl) (K _ _ ⟨m1, rfl, hm, st, hb1, r1⟩)
    · rw [if_neg (not_true hc)] at hr
      refine WO_fact (t := 9) (b := false) (decide (p0.1 < 1)) (by kernel_rfl) hc ?_
      refine WO_seg 1 [(10, .pointer (some ⟨b1, 0, none⟩))] (by kernel_rfl) (by kernel_rfl) ?_
      refine WO_one rfl (One_load_row (d := 11) (t := 3) (x := (.tmp 10)) (.int .i64 p0.1) (by kernel_rfl) rfl (show evL _ _ = some (.pointer (some ⟨b1, 0, none⟩)) from (by kernel_rfl)) st hb1 (by kernel_rfl) ?_)
      refine WO_seg 2 [(13, .bool (decide (p0.1 > 255)))] (by kernel_rfl) (by kernel_rfl) ?_
      obtain rfl := Option.some.inj hr
      exact WO_env _ (by kernel_rfl) (K _ _ ⟨m1, rfl, hm, st, hb1, r1⟩)

def contents_Encode_L1 (N : Nat) (p0 : List ByteArray) (s1 : List (UInt8) × Int) : Option ((List (UInt8) × Int) ⊕ ((List (UInt8)) ⊕ (List UInt8 × Int))) :=
  if (decide (s1.2 < (List.length p0 : Int))) = true then ((idx p0 s1.2).bind fun x1 => (bytesOf x1).bind fun l1 => (wire_Frame N (3, l1)).bind fun y2 => if (y2.2 != 0) = true then (some (.inr (.inr ((([] : List (UInt8)), y2.2))))) else ((appendS 1 s1.1 y2.1).bind fun l2 => some (.inl (l2, IntKind.wrap .i64 (s1.2 + 1))))) else (some (.inr (.inl s1.1)))

def contents_Encode (N : Nat) (p0 : List ByteArray) : Option (List UInt8 × Int) :=
  (contents_Check N p0).bind fun y1 => if (y1 != 0) = true then (some (([] : List (UInt8)), y1)) else ((loopM (contents_Encode_L1 N p0) N (([] : List (UInt8)), 0)).bind fun out1 => (match out1 with | .inl o1 => some (o1, 0) | .inr (z) => some z))

set_option maxHeartbeats 4000000 in
set_option maxRecDepth 100000 in
theorem contents_Encode_ok {N : Nat} {m : Mem} {own : List Piece} {w : World} {p0 : List ByteArray} {a1 : Option Addr} {c1 : Nat} {r : List UInt8 × Int} (st : St m (own) w) (r1 : RepS cStr m a1 c1 p0) (hr : contents_Encode N p0 = some r) : Calls Go.Proofs.Try.prog 56 #[.agg #[.slice a1 (List.length p0) c1]] w fun e w' => ∃ (ra1 : Option Addr) (rc1 : Nat) (m' : Mem), e = .returned (.tuple #[.slice ra1 (List.length r.1) rc1, .int .i64 r.2]) ∧ m.le m' ∧ St m' (.room ra1 (List.length r.1) rc1 5 1 :: own) w' ∧ RepS cU8 m' ra1 rc1 r.1 := by
  unfold contents_Encode at hr
  have hm := m.le_refl
  refine W_calls Go.Proofs.Try.func56 rfl Go.Proofs.Try.ntmps56 [(0, .agg #[.slice a1 (List.length p0) c1])] (by kernel_rfl) rfl ?_
  refine W_seq ?_
  refine W_region ?_
  refine WO_one rfl (One_box (d := 1) (e := 24) (x := (.tmp 0)) (.agg #[.slice a1 (List.length p0) c1]) (by kernel_rfl) rfl (by kernel_rfl) st ?_)
  clear st
  intro b1 m1 w1 hle1 st hb1
  have hm := Mem.le_trans hm hle1
  have r1 := r1.mono hle1
  refine WO_seg 2 [] (by kernel_rfl) (by kernel_rfl) ?_
  refine WO_end rfl ?_
  refine X_then ?_
  refine W_seq ?_
  refine W_seq ?_
  refine W_region ?_
  refine WO_one rfl (One_load_row (d := 10) (t := 24) (x := (.tmp 1)) (.agg #[.slice a1 (List.length p0) c1]) (by kernel_rfl) rfl (show evL _ _ = some (.pointer (some ⟨b1, 0, none⟩)) from (by kernel_rfl)) st hb1 (by kernel_rfl) ?_)
  replace hr := bindS hr
  obtain ⟨y1, hx1, hr⟩ := hr
  refine WO_one rfl (One_fn 11 14 #[.agg #[.slice a1 (List.length p0) c1]] (by kernel_rfl) rfl ?_)
  refine (contents_Check_ok st r1 hx1).mono ?_
  clear st
  rintro _ w2 ⟨m2, rfl, hle2, st⟩
  refine ⟨_, rfl, ?_⟩
  have hm := Mem.le_trans hm hle2
  have hb1 := hb1.mono hle2
  have r1 := r1.mono hle2
  refine WO_seg 1 [(4, .int .i64 y1)] (by kernel_rfl) (by kernel_rfl) ?_
  refine WO_end rfl ?_
  refine X_then ?_
  refine W_seq ?_
  refine W_region ?_
  refine WO_seg 2 [(13, .bool (y1 != 0))] (by kernel_rfl) (by kernel_rfl) ?_
  refine WO_end rfl ?_
  refine X_then ?_
  refine W_cond (y1 != 0) (by kernel_rfl) ?_ ?_
  · intro hc
    rw [if_pos hc] at hr
    refine W_seq ?_
    refine W_region ?_
    refine WO_seg 3 [(2, .slice none (List.length ([] : List (UInt8))) 0), (3, .int .i64 y1)] (by kernel_rfl) (by kernel_rfl) ?_
    refine WO_end rfl ?_
    refine X_then ?_
    refine W_ret ?_
    refine X_then_ret ?_
    obtain rfl := Option.some.inj hr
    refine X_ret [.tmp 2, .tmp 3] [.slice none (List.length ([] : List (UInt8))) 0, .int .i64 y1] rfl (ResAll.cons (ResAt.tmp (by kernel_rfl)) (ResAll.cons (ResAt.tmp (by kernel_rfl)) ResAll.nil)) ?_
    have st := st.nilroom 5 1
    exact ⟨none, 0, m2, rfl, hm, st, (RepS.nil _ _)⟩
  · intro hc
    rw [if_neg (not_true hc)] at hr
    refine W_skip ?_
    refine X_then ?_
    refine W_seq ?_
    refine W_region ?_
    refine WO_seg 1 [(5, .slice none (List.length ([] : List (UInt8))) 0)] (by kernel_rfl) (by kernel_rfl) ?_
    refine WO_end rfl ?_
    refine X_then ?_
    refine W_seq ?_
    refine W_seq ?_
    refine W_region ?_
    refine WO_seg 1 [(15, .pointer (some ⟨b1, 0, none⟩))] (by kernel_rfl) (by kernel_rfl) ?_
    refine WO_one rfl (One_load_row (d := 16) (t := 22) (x := (.tmp 15)) (.slice a1 (List.length p0) c1) (by kernel_rfl) rfl (show evL _ _ = some (.pointer (some ⟨b1, 0, none⟩)) from (by kernel_rfl)) st hb1 (by kernel_rfl) ?_)
    refine WO_seg 2 [(17, .int .i64 (List.length p0 : Int)), (18, .int .i64 0)] (by kernel_rfl) (by kernel_rfl) ?_
    refine WO_end rfl ?_
    refine X_then ?_
    refine W_block ?_
    replace hr := bindS hr
    obtain ⟨out1, hr, hrKu1⟩ := hr
    refine W_cut (.exit 0) (fun L' w' => ∃ (o1 : List (UInt8)) (a2 : Option Addr) (c2 : Nat) (m3 : Mem), (.inl o1) = out1 ∧ L' = [(5, .slice a2 (List.length o1) c2)] ∧ m.le m3 ∧ St m3 (.room a2 (List.length o1) c2 5 1 :: own) w' ∧ RepS cU8 m3 a2 c2 o1) ?_ ?_
    · clear hr st
      rintro _ w3 ⟨o1, a2, c2, m3, rfl, rfl, hm, st, r2⟩
      have hr := hrKu1
      clear hrKu1
      dsimp only at hr
      refine X_block_eq ?_
      refine X_then ?_
      refine W_seq ?_
      refine W_region ?_
      refine WO_seg 3 [(2, .slice a2 (List.length o1) c2), (3, .int .i64 0)] (by kernel_rfl) (by kernel_rfl) ?_
      refine WO_end rfl ?_
      refine X_then ?_
      refine W_ret ?_
      obtain rfl := Option.some.inj hr
      refine X_ret [.tmp 2, .tmp 3] [.slice a2 (List.length o1) c2, .int .i64 0] rfl (ResAll.cons (ResAt.tmp (by kernel_rfl)) (ResAll.cons (ResAt.tmp (by kernel_rfl)) ResAll.nil)) ?_
      exact ⟨a2, c2, m3, rfl, hm, st, r2⟩
    intro K0_u1
    have st := st.nilroom 5 1
    refine W_env _ (by kernel_rfl) (W_loop (fun k1 L' w' => ∃ (s1 : List (UInt8) × Int) (a3 : Option Addr) (c3 : Nat) (m4 : Mem), loopM (contents_Encode_L1 N p0) k1 s1 = some out1 ∧ L' = [(5, .slice a3 (List.length s1.1) c3), (16, .slice a1 (List.length p0) c1), (17, .int .i64 (List.length p0 : Int)), (18, .int .i64 s1.2)] ∧ m.le m4 ∧ St m4 (.room a3 (List.length s1.1) c3 5 1 :: own) w' ∧ RepS cU8 m4 a3 c3 s1.1 ∧ RepS cStr m4 a1 c1 p0) N ⟨(([] : List (UInt8)), 0), none, 0, m2, hr, rfl, hm, st, (RepS.nil _ _), r1⟩ ?_)
    clear st hr
    rintro k1 _ w4 ⟨s1, a3, c3, m4, hL, rfl, hm, st, r3, r1⟩
    rcases k1 with _ | k1
    · exact loopM_zero hL
    · obtain ⟨qu1, hr, hSu1, hBu1⟩ := loopM_succ hL
      clear hL
      unfold contents_Encode_L1 at hr
      refine W_seq ?_
      refine W_region ?_
      refine WO_seg 1 [(19, .bool (decide (s1.2 < (List.length p0 : Int))))] (by kernel_rfl) (by kernel_rfl) ?_
      refine WO_end rfl ?_
      refine X_then ?_
      refine W_seq ?_
      refine W_cond (decide (s1.2 < (List.length p0 : Int))) (by kernel_rfl) ?_ ?_
      · intro hc
        rw [if_pos hc] at hr
        refine W_skip ?_
        refine X_then ?_
        refine W_seq ?_
        refine W_block ?_
        refine W_seq ?_
        refine W_region ?_
        replace hr := bindS hr
        obtain ⟨x1, hx2, hr⟩ := hr
        refine WO_one rfl (One_index (d := 20) (t := 22) (e := 9) (x := (.tmp 16)) (y := (.tmp 18)) cStr (by kernel_rfl) rfl (show evL _ _ = some (.slice a1 (List.length p0) c1) from (by kernel_rfl)) (show evL _ _ = some (.int .i64 s1.2) from (by kernel_rfl)) (by kernel_rfl) r1 hx2 ?_)
        rintro b2 f1 cs1 rfl hq1
        refine WO_one rfl (One_load_row (d := 21) (t := 9) (x := (.tmp 20)) (.string x1) (by kernel_rfl) rfl (show evL _ _ = some (.pointer (some ⟨b2, f1, none⟩)) from (by kernel_rfl)) st hq1 (by kernel_rfl) ?_)
        refine WO_seg 1 [(7, .string x1)] (by kernel_rfl) (by kernel_rfl) ?_
        refine WO_end rfl ?_
        refine X_then ?_
        refine W_seq ?_
        refine W_region ?_
        refine WO_seg 1 [(23, .string x1)] (by kernel_rfl) (by kernel_rfl) ?_
        replace hr := bindS hr
        obtain ⟨l1, hx3, hr⟩ := hr
        refine WO_one rfl (One_strBytes (d := 24) (t1 := 9) (t2 := 50) (e := 5) (x := (.tmp 23)) (by kernel_rfl) rfl (show evL _ _ = some (.string x1) from (by kernel_rfl)) (by kernel_rfl) (by kernel_rfl) st hx3 ?_)
        clear st
        intro b3 c4 m5 w5 hle3 st r4
        have hm := Mem.le_trans hm hle3
        have r3 := r3.mono hle3
        have r1 := r1.mono hle3
        refine WO_seg 1 [(25, .agg #[.int .i64 3, .slice (some ⟨b3, 0, none⟩) (List.length l1) c4])] (by kernel_rfl) (by kernel_rfl) ?_
        replace hr := bindS hr
        obtain ⟨y2, hx4, hr⟩ := hr
        refine WO_one rfl (One_fn 26 31 #[.agg #[.int .i64 3, .slice (some ⟨b3, 0, none⟩) (List.length l1) c4]] (by kernel_rfl) rfl ?_)
        refine (wire_Frame_ok st r4 hx4).mono ?_
        clear st
        rintro _ w6 ⟨a4, c5, m6, rfl, hle4, st, r5⟩
        refine ⟨_, rfl, ?_⟩
        have hm := Mem.le_trans hm hle4
        have r3 := r3.mono hle4
        have r1 := r1.mono hle4
        have r4 := r4.mono hle4
        refine WO_seg 5 [(8, .slice a4 (List.length y2.1) c5), (9, .int .i64 y2.2)] (by kernel_rfl) (by kernel_rfl) ?_
        refine WO_end rfl ?_
        refine X_then ?_
        refine W_seq ?_
        refine W_seq ?_
        refine W_region ?_
        refine WO_seg 2 [(30, .bool (y2.2 != 0))] (by kernel_rfl) (by kernel_rfl) ?_
        refine WO_end rfl ?_
        refine X_then ?_
        refine W_cond (y2.2 != 0) (by kernel_rfl) ?_ ?_
        · intro hc
          rw [if_pos hc] at hr
          refine W_seq ?_
          refine W_region ?_
          refine WO_seg 3 [(2, .slice none (List.length ([] : List (UInt8))) 0), (3, .int .i64 y2.2)] (by kernel_rfl) (by kernel_rfl) ?_
          refine WO_end rfl ?_
          have st := st.tail
          have st := st.tail
          refine X_then ?_
          refine W_ret ?_
          refine X_then_ret ?_
          refine X_block_ret ?_
          refine X_then_ret ?_
          obtain rfl := Option.some.inj hr
          have ho := hBu1 _ rfl
          subst ho
          have hr := hrKu1
          dsimp only at hr
          refine X_then_ret ?_
          refine X_block_ret ?_
          refine X_then_ret ?_
          obtain rfl := Option.some.inj hr
          refine X_ret [.tmp 2, .tmp 3] [.slice none (List.length ([] : List (UInt8))) 0, .int .i64 y2.2] rfl (ResAll.cons (ResAt.tmp (by kernel_rfl)) (ResAll.cons (ResAt.tmp (by kernel_rfl)) ResAll.nil)) ?_
          have st := st.nilroom 5 1
          exact ⟨none, 0, m6, rfl, hm, st, (RepS.nil _ _)⟩
        · intro hc
          rw [if_neg (not_true hc)] at hr
          refine W_skip ?_
          refine X_then ?_
          refine W_region ?_
          refine WO_seg 2 [(32, .slice a3 (List.length s1.1) c3), (33, .slice a4 (List.length y2.1) c5)] (by kernel_rfl) (by kernel_rfl) ?_
          have st := st.front1
          replace hr := bindS hr
          obtain ⟨l2, hx5, hr⟩ := hr
          refine WO_one rfl (One_append (d := 34) (t := 50) (u := 50) (e := 5) (by_ := 1) (x := (.tmp 32)) (y := (.tmp 33)) cU8 (by kernel_rfl) rfl (show evL _ _ = some (.slice a3 (List.length s1.1) c3) from (by kernel_rfl)) (show evL _ _ = some (.slice a4 (List.length y2.1) c5) from (by kernel_rfl)) st (by kernel_rfl) (.inl (by kernel_rfl)) r3 r5.src hx5 ?_)
          clear st
          intro a5 c6 m7 w7 hle5 st r6
          have hm := Mem.le_trans hm hle5
          have r3 := r3.mono hle5
          have r1 := r1.mono hle5
          have r5 := r5.mono hle5
          refine WO_seg 1 [(5, .slice a5 (List.length l2) c6)] (by kernel_rfl) (by kernel_rfl) ?_
          refine WO_end rfl ?_
          have st := st.front1
          have st := st.tail
          refine X_block ?_
          refine X_then ?_
          refine W_region ?_
          refine WO_seg 2 [(18, .int .i64 (IntKind.wrap .i64 (s1.2 + 1)))] (by kernel_rfl) (by kernel_rfl) ?_
          refine WO_end rfl ?_
          obtain rfl := Option.some.inj hr
          have hL := hSu1 _ rfl
          exact X_env _ (by kernel_rfl) (X_round k1 (Nat.lt_succ_self _) ⟨(l2, IntKind.wrap .i64 (s1.2 + 1)), a5, c6, m7, hL, rfl, hm, st, r6, r1⟩)
      · intro hc
        rw [if_neg (not_true hc)] at hr
        refine W_exit ?_
        refine X_then_exit ?_
        obtain rfl := Option.some.inj hr
        have ho := hBu1 _ rfl
        refine X_then_exit ?_
        exact X_env _ (by kernel_rfl) (K0_u1 _ _ ⟨s1.1, a3, c3, m4, ho, rfl, hm, st, r3⟩)

def wire_Uint_L1 (N : Nat) (p0 : List UInt8) (s1 : Int) : Option ((Int) ⊕ ((Int))) :=
  (if (decide (s1 < (List.length p0 : Int))) = true then ((idx p0 s1).bind fun x1 => some (decide ((x1.toNat : Int) ≥ 128))) else (some false) : Option (Bool)).bind fun o3 => if o3 = true then (some (.inl (IntKind.wrap .i64 (s1 + 1)))) else (some (.inr s1))

def wire_Uint_L2 (N : Nat) (p0 : List UInt8) (p1 : Int) (s2 : Int × Int) : Option ((Int × Int) ⊕ ((Int))) :=
  if (decide (s2.2 ≥ p1)) = true then ((idx p0 s2.2).bind fun x5 => some (.inl (iOr .u64 (IntKind.wrap .u64 (s2.1 * 2 ^ 7)) (IntKind.wrap .u64 (iAnd .u8 (x5.toNat : Int) 127)), IntKind.wrap .i64 (s2.2 - 1)))) else (some (.inr s2.1))

def wire_Uint (N : Nat) (p0 : List UInt8) (p1 : Int) : Option (Int × Int × Int) :=
  (if (decide (p1 < 0)) = true then (some true) else (some (decide (p1 > (List.length p0 : Int)))) : Option (Bool)).bind fun o1 => if o1 = true then (some (0, 0, 3)) else ((loopM (wire_Uint_L1 N p0) N p1).bind fun o2 => if (o2 == (List.length p0 : Int)) = true then (some (0, 0, 7)) else ((if (decide ((IntKind.wrap .i64 ((IntKind.wrap .i64 (o2 - p1)) + 1)) > 10)) = true then (some true) else (if ((IntKind.wrap .i64 ((IntKind.wrap .i64 (o2 - p1)) + 1)) == 10) = true then ((idx p0 o2).bind fun x2 => if (decide ((x2.toNat : Int) > 1)) = true then (some true) else (if (decide ((IntKind.wrap .i64 ((IntKind.wrap .i64 (o2 - p1)) + 1)) > 1)) = true then ((idx p0 o2).bind fun x3 => some ((x3.toNat : Int) == 0)) else (some false))) else (if (decide ((IntKind.wrap .i64 ((IntKind.wrap .i64 (o2 - p1)) + 1)) > 1)) = true then ((idx p0 o2).bind fun x4 => some ((x4.toNat : Int) == 0)) else (some false))) : Option (Bool)).bind fun o4 => if o4 = true then (some (0, 0, 6)) else ((loopM (wire_Uint_L2 N p0 p1) N (0, o2)).bind fun o5 => some (o5, IntKind.wrap .i64 (o2 + 1), 0))))

set_option maxHeartbeats 4000000 in
set_option maxRecDepth 100000 in
theorem wire_Uint_ok {N : Nat} {m : Mem} {own : List Piece} {w : World} {p0 : List UInt8} {p1 : Int} {a1 : Option Addr} {c1 : Nat} {r : Int × Int × Int} (st : St m (own) w) (r1 : RepS cU8 m a1 c1 p0) (hr : wire_Uint N p0 p1 = some r) : Calls Go.Proofs.Try.prog 49 #[.slice a1 (List.length p0) c1, .int .i64 p1] w fun e w' => ∃ (m' : Mem), e = .returned (.tuple #[.int .u64 r.1, .int .i64 r.2.1, .int .i64 r.2.2]) ∧ m.le m' ∧ St m' (own) w' := by
  unfold wire_Uint at hr
  have hm := m.le_refl
  refine W_calls Go.Proofs.Try.func49 rfl Go.Proofs.Try.ntmps49 [(0, .slice a1 (List.length p0) c1), (1, .int .i64 p1)] (by kernel_rfl) rfl ?_
  refine W_seq ?_
  refine W_region ?_
  refine WO_seg 3 [(4, .int .u64 0)] (by kernel_rfl) (by kernel_rfl) ?_
  refine WO_end rfl ?_
  refine X_then ?_
  refine W_seq ?_
  refine W_seq ?_
  refine W_region ?_
  replace hr := bindS hr
  obtain ⟨o1, hr, hrK⟩ := hr
  refine WO_cut (j := 8) (fun L' w' => ∃ (m1 : Mem), L' = [(0, .slice a1 (List.length p0) c1), (1, .int .i64 p1), (4, .int .u64 0), (17, .bool o1)] ∧ m.le m1 ∧ St m1 (own) w' ∧ RepS cU8 m1 a1 c1 p0) ?_ ?_
  · clear hr st
    have hr := hrK
    clear hrK
    rintro _ w1 ⟨m1, rfl, hm, st, r1⟩
    refine WO_end rfl ?_
    refine X_then ?_
    refine W_cond o1 (by kernel_rfl) ?_ ?_
    · intro hc
      rw [if_pos hc] at hr
      refine W_seq ?_
      refine W_region ?_
      refine WO_seg 3 [(4, .int .u64 0), (5, .int .i64 0), (6, .int .i64 3)] (by kernel_rfl) (by kernel_rfl) ?_
      refine WO_end rfl ?_
      refine X_then ?_
      refine W_ret ?_
      refine X_then_ret ?_
      obtain rfl := Option.some.inj hr
      refine X_ret [.tmp 4, .tmp 5, .tmp 6] [.int .u64 0, .int .i64 0, .int .i64 3] rfl (ResAll.cons (ResAt.tmp (by kernel_rfl)) (ResAll.cons (ResAt.tmp (by kernel_rfl)) (ResAll.cons (ResAt.tmp (by kernel_rfl)) ResAll.nil))) ?_
      exact ⟨m1, rfl, hm, st⟩
    · intro hc
      rw [if_neg (not_true hc)] at hr
      refine W_skip ?_
      refine X_then ?_
      refine W_seq ?_
      refine W_region ?_
      refine WO_seg 2 [(7, .int .i64 p1)] (by kernel_rfl) (by kernel_rfl) ?_
      refine WO_end rfl ?_
      refine X_then ?_
      refine W_seq ?_
      refine W_block ?_
      replace hr := bindS hr
      obtain ⟨out1, hr, hrKu1⟩ := hr
      refine W_cut (.exit 0) (fun L' w' => ∃ (o2 : Int) (m2 : Mem), o2 = out1 ∧ L' = [(0, .slice a1 (List.length p0) c1), (1, .int .i64 p1), (4, .int .u64 0), (7, .int .i64 o2)] ∧ m.le m2 ∧ St m2 (own) w' ∧ RepS cU8 m2 a1 c1 p0) ?_ ?_
      · clear hr st
        rintro _ w2 ⟨o2, m2, rfl, rfl, hm, st, r1⟩
        have hr := hrKu1
        clear hrKu1
        refine X_block_eq ?_
        refine X_then ?_
        refine W_seq ?_
        refine W_region ?_
        refine WO_seg 5 [(8, .int .i64 (IntKind.wrap .i64 ((IntKind.wrap .i64 (o2 - p1)) + 1)))] (by kernel_rfl) (by kernel_rfl) ?_
        refine WO_end rfl ?_
        refine X_then ?_
        refine W_seq ?_
        refine W_block ?_
        refine W_seq ?_
        refine W_region ?_
        refine WO_seg 5 [(36, .bool (o2 == (List.length p0 : Int)))] (by kernel_rfl) (by kernel_rfl) ?_
        refine WO_end rfl ?_
        refine X_then ?_
        refine W_cond (o2 == (List.length p0 : Int)) (by kernel_rfl) ?_ ?_
        · intro hc
          rw [if_pos hc] at hr
          refine W_seq ?_
          refine W_region ?_
          refine WO_seg 3 [(4, .int .u64 0), (5, .int .i64 0), (6, .int .i64 7)] (by kernel_rfl) (by kernel_rfl) ?_
          refine WO_end rfl ?_
          refine X_then ?_
          refine W_ret ?_
          refine X_block_ret ?_
          refine X_then_ret ?_
          obtain rfl := Option.some.inj hr
          refine X_ret [.tmp 4, .tmp 5, .tmp 6] [.int .u64 0, .int .i64 0, .int .i64 7] rfl (ResAll.cons (ResAt.tmp (by kernel_rfl)) (ResAll.cons (ResAt.tmp (by kernel_rfl)) (ResAll.cons (ResAt.tmp (by kernel_rfl)) ResAll.nil))) ?_
          exact ⟨m2, rfl, hm, st⟩
        · intro hc
          rw [if_neg (not_true hc)] at hr
          refine W_seq ?_
          refine W_region ?_
          replace hr := bindS hr
          obtain ⟨o4, hr, hrK⟩ := hr
          refine WO_cut (j := 25) (fun L' w' => ∃ (m5 : Mem), L' = [(0, .slice a1 (List.length p0) c1), (1, .int .i64 p1), (4, .int .u64 0), (7, .int .i64 o2), (41, .bool o4)] ∧ m.le m5 ∧ St m5 (own) w' ∧ RepS cU8 m5 a1 c1 p0) ?_ ?_
          · clear hr st
            have hr := hrK
            clear hrK
            rintro _ w5 ⟨m5, rfl, hm, st, r1⟩
            refine WO_end rfl ?_
            refine X_then ?_
            refine W_cond o4 (by kernel_rfl) ?_ ?_
            · intro hc
              rw [if_pos hc] at hr
              refine W_seq ?_
              refine W_region ?_
              refine WO_seg 3 [(4, .int .u64 0), (5, .int .i64 0), (6, .int .i64 6)] (by kernel_rfl) (by kernel_rfl) ?_
              refine WO_end rfl ?_
              refine X_then ?_
              refine W_ret ?_
              refine X_block_ret ?_
              refine X_then_ret ?_
              obtain rfl := Option.some.inj hr
              refine X_ret [.tmp 4, .tmp 5, .tmp 6] [.int .u64 0, .int .i64 0, .int .i64 6] rfl (ResAll.cons (ResAt.tmp (by kernel_rfl)) (ResAll.cons (ResAt.tmp (by kernel_rfl)) (ResAll.cons (ResAt.tmp (by kernel_rfl)) ResAll.nil))) ?_
              exact ⟨m5, rfl, hm, st⟩
            · intro hc
              rw [if_neg (not_true hc)] at hr
              refine W_skip ?_
              refine X_block ?_
              refine X_then ?_
              refine W_seq ?_
              refine W_seq ?_
              refine W_region ?_
              refine WO_seg 2 [(9, .int .i64 o2)] (by kernel_rfl) (by kernel_rfl) ?_
              refine WO_end rfl ?_
              refine X_then ?_
              refine W_block ?_
              replace hr := bindS hr
              obtain ⟨out2, hr, hrKu3⟩ := hr
              refine W_cut (.exit 3) (fun L' w' => ∃ (o5 : Int) (m6 : Mem), o5 = out2 ∧ L' = [(4, .int .u64 o5), (7, .int .i64 o2)] ∧ m.le m6 ∧ St m6 (own) w') ?_ ?_
              · clear hr st
                rintro _ w6 ⟨o5, m6, rfl, rfl, hm, st⟩
                have hr := hrKu3
                clear hrKu3
                refine X_block_eq ?_
                refine X_then ?_
                refine W_seq ?_
                refine W_region ?_
                refine WO_seg 6 [(4, .int .u64 o5), (5, .int .i64 (IntKind.wrap .i64 (o2 + 1))), (6, .int .i64 0)] (by kernel_rfl) (by kernel_rfl) ?_
                refine WO_end rfl ?_
                refine X_then ?_
                refine W_ret ?_
                obtain rfl := Option.some.inj hr
                refine X_ret [.tmp 4, .tmp 5, .tmp 6] [.int .u64 o5, .int .i64 (IntKind.wrap .i64 (o2 + 1)), .int .i64 0] rfl (ResAll.cons (ResAt.tmp (by kernel_rfl)) (ResAll.cons (ResAt.tmp (by kernel_rfl)) (ResAll.cons (ResAt.tmp (by kernel_rfl)) ResAll.nil))) ?_
                exact ⟨m6, rfl, hm, st⟩
              intro K3_u3
              clear hrKu3
              refine W_env _ (by kernel_rfl) (W_loop (fun k2 L' w' => ∃ (s2 : Int × Int) (m7 : Mem), loopM (wire_Uint_L2 N p0 p1) k2 s2 = some out2 ∧ L' = [(0, .slice a1 (List.length p0) c1), (1, .int .i64 p1), (4, .int .u64 s2.1), (7, .int .i64 o2), (9, .int .i64 s2.2)] ∧ m.le m7 ∧ St m7 (own) w' ∧ RepS cU8 m7 a1 c1 p0) N ⟨(0, o2), m5, hr, rfl, hm, st, r1⟩ ?_)
              clear st hr
              rintro k2 _ w7 ⟨s2, m7, hL, rfl, hm, st, r1⟩
              rcases k2 with _ | k2
              · exact loopM_zero hL
              · obtain ⟨qu3, hr, hSu3, hBu3⟩ := loopM_succ hL
                clear hL
                unfold wire_Uint_L2 at hr
                refine W_seq ?_
                refine W_seq ?_
                refine W_region ?_
                refine WO_seg 3 [(69, .bool (decide (s2.2 ≥ p1)))] (by kernel_rfl) (by kernel_rfl) ?_
                refine WO_end rfl ?_
                refine X_then ?_
                refine W_cond (decide (s2.2 ≥ p1)) (by kernel_rfl) ?_ ?_
                · intro hc
                  rw [if_pos hc] at hr
                  refine W_skip ?_
                  refine X_then ?_
                  refine W_seq ?_
                  refine W_block ?_
                  refine W_region ?_
                  refine WO_seg 4 [(73, .int .u64 (IntKind.wrap .u64 (s2.1 * 2 ^ 7))), (74, .slice a1 (List.length p0) c1), (75, .int .i64 s2.2)] (by kernel_rfl) (by kernel_rfl) ?_
                  replace hr := bindS hr
                  obtain ⟨x5, hx5, hr⟩ := hr
                  refine WO_one rfl (One_index (d := 76) (t := 50) (e := 5) (x := (.tmp 74)) (y := (.tmp 75)) cU8 (by kernel_rfl) rfl (show evL _ _ = some (.slice a1 (List.length p0) c1) from (by kernel_rfl)) (show evL _ _ = some (.int .i64 s2.2) from (by kernel_rfl)) (by kernel_rfl) r1 hx5 ?_)
                  rintro b5 f5 cs5 rfl hq5
                  refine WO_one rfl (One_load_row (d := 77) (t := 5) (x := (.tmp 76)) (.int .u8 (x5.toNat : Int)) (by kernel_rfl) rfl (show evL _ _ = some (.pointer (some ⟨b5, f5, none⟩)) from (by kernel_rfl)) st hq5 (by kernel_rfl) ?_)
                  refine WO_seg 4 [(4, .int .u64 (iOr .u64 (IntKind.wrap .u64 (s2.1 * 2 ^ 7)) (IntKind.wrap .u64 (iAnd .u8 (x5.toNat : Int) 127))))] (by kernel_rfl) (by kernel_rfl) ?_
                  refine WO_end rfl ?_
                  refine X_block ?_
                  refine X_then ?_
                  refine W_region ?_
                  refine WO_seg 3 [(9, .int .i64 (IntKind.wrap .i64 (s2.2 - 1)))] (by kernel_rfl) (by kernel_rfl) ?_
                  refine WO_end rfl ?_
                  obtain rfl := Option.some.inj hr
                  have hL := hSu3 _ rfl
                  exact X_env _ (by kernel_rfl) (X_round k2 (Nat.lt_succ_self _) ⟨(iOr .u64 (IntKind.wrap .u64 (s2.1 * 2 ^ 7)) (IntKind.wrap .u64 (iAnd .u8 (x5.toNat : Int) 127)), IntKind.wrap .i64 (s2.2 - 1)), m7, hL, rfl, hm, st, r1⟩)
                · intro hc
                  rw [if_neg (not_true hc)] at hr
                  refine W_exit ?_
                  refine X_then_exit ?_
                  obtain rfl := Option.some.inj hr
                  have ho := hBu3 _ rfl
                  refine X_then_exit ?_
                  exact X_env _ (by kernel_rfl) (K3_u3 _ _ ⟨s2.1, m7, ho, rfl, hm, st⟩)
          · intro K
            clear hrK
            refine WO_seg 3 [(44, .bool (decide ((IntKind.wrap .i64 ((IntKind.wrap .i64 (o2 - p1)) + 1)) > 10)))] (by kernel_rfl) (by kernel_rfl) ?_
            rcases bcases (decide ((IntKind.wrap .i64 ((IntKind.wrap .i64 (o2 - p1)) + 1)) > 10)) with hc | hc
            · rw [if_pos hc] at hr
              refine WO_fact (t := 44) (b := true) (decide ((IntKind.wrap .i64 ((IntKind.wrap .i64 (o2 - p1)) + 1)) > 10)) (by kernel_rfl) hc ?_
              refine WO_seg 22 [(41, .bool true)] (by kernel_rfl) (by kernel_rfl) ?_
              obtain rfl := Option.some.inj hr
              exact WO_env _ (by kernel_rfl) (K _ _ ⟨m2, rfl, hm, st, r1⟩)
            · rw [if_neg (not_true hc)] at hr
              refine WO_fact (t := 44) (b := false) (decide ((IntKind.wrap .i64 ((IntKind.wrap .i64 (o2 - p1)) + 1)) > 10)) (by kernel_rfl) hc ?_
              refine WO_seg 3 [(47, .bool ((IntKind.wrap .i64 ((IntKind.wrap .i64 (o2 - p1)) + 1)) == 10))] (by kernel_rfl) (by kernel_rfl) ?_
              rcases bcases ((IntKind.wrap .i64 ((IntKind.wrap .i64 (o2 - p1)) + 1)) == 10) with hc | hc
              · rw [if_pos hc] at hr
                refine WO_fact (t := 47) (b := true) ((IntKind.wrap .i64 ((IntKind.wrap .i64 (o2 - p1)) + 1)) == 10) (by kernel_rfl) hc ?_
                refine WO_seg 2 [(48, .slice a1 (List.length p0) c1), (49, .int .i64 o2)] (by kernel_rfl) (by kernel_rfl) ?_
                replace hr := bindS hr
                obtain ⟨x2, hx2, hr⟩ := hr
                refine WO_one rfl (One_index (d := 50) (t := 50) (e := 5) (x := (.tmp 48)) (y := (.tmp 49)) cU8 (by kernel_rfl) rfl (show evL _ _ = some (.slice a1 (List.length p0) c1) from (by kernel_rfl)) (show evL _ _ = some (.int .i64 o2) from (by kernel_rfl)) (by kernel_rfl) r1 hx2 ?_)
                rintro b2 f2 cs2 rfl hq2
                refine WO_one rfl (One_load_row (d := 51) (t := 5) (x := (.tmp 50)) (.int .u8 (x2.toNat : Int)) (by kernel_rfl) rfl (show evL _ _ = some (.pointer (some ⟨b2, f2, none⟩)) from (by kernel_rfl)) st hq2 (by kernel_rfl) ?_)
                refine WO_seg 4 [(55, .bool (decide ((x2.toNat : Int) > 1)))] (by kernel_rfl) (by kernel_rfl) ?_
                rcases bcases (decide ((x2.toNat : Int) > 1)) with hc | hc
                · rw [if_pos hc] at hr
                  refine WO_fact (t := 55) (b := true) (decide ((x2.toNat : Int) > 1)) (by kernel_rfl) hc ?_
                  refine WO_seg 11 [(41, .bool true)] (by kernel_rfl) (by kernel_rfl) ?_
                  obtain rfl := Option.some.inj hr
                  exact WO_env _ (by kernel_rfl) (K _ _ ⟨m2, rfl, hm, st, r1⟩)
                · rw [if_neg (not_true hc)] at hr
                  refine WO_fact (t := 55) (b := false) (decide ((x2.toNat : Int) > 1)) (by kernel_rfl) hc ?_
                  refine WO_seg 3 [(58, .bool (decide ((IntKind.wrap .i64 ((IntKind.wrap .i64 (o2 - p1)) + 1)) > 1)))] (by kernel_rfl) (by kernel_rfl) ?_
                  rcases bcases (decide ((IntKind.wrap .i64 ((IntKind.wrap .i64 (o2 - p1)) + 1)) > 1)) with hc | hc
                  · rw [if_pos hc] at hr
                    refine WO_fact (t := 58) (b := true) (decide ((IntKind.wrap .i64 ((IntKind.wrap .i64 (o2 - p1)) + 1)) > 1)) (by kernel_rfl) hc ?_
                    refine WO_seg 2 [(59, .slice a1 (List.length p0) c1), (60, .int .i64 o2)] (by kernel_rfl) (by kernel_rfl) ?_
                    replace hr := bindS hr
                    obtain ⟨x3, hx3, hr⟩ := hr
                    refine WO_one rfl (One_index (d := 61) (t := 50) (e := 5) (x := (.tmp 59)) (y := (.tmp 60)) cU8 (by kernel_rfl) rfl (show evL _ _ = some (.slice a1 (List.length p0) c1) from (by kernel_rfl)) (show evL _ _ = some (.int .i64 o2) from (by kernel_rfl)) (by kernel_rfl) r1 hx3 ?_)
                    rintro b3 f3 cs3 rfl hq3
                    refine WO_one rfl (One_load_row (d := 62) (t := 5) (x := (.tmp 61)) (.int .u8 (x3.toNat : Int)) (by kernel_rfl) rfl (show evL _ _ = some (.pointer (some ⟨b3, f3, none⟩)) from (by kernel_rfl)) st hq3 (by kernel_rfl) ?_)
                    refine WO_seg 4 [(41, .bool ((x3.toNat : Int) == 0))] (by kernel_rfl) (by kernel_rfl) ?_
                    obtain rfl := Option.some.inj hr
                    exact WO_env _ (by kernel_rfl) (K _ _ ⟨m2, rfl, hm, st, r1⟩)
                  · rw [if_neg (not_true hc)] at hr
                    refine WO_fact (t := 58) (b := false) (decide ((IntKind.wrap .i64 ((IntKind.wrap .i64 (o2 - p1)) + 1)) > 1)) (by kernel_rfl) hc ?_
                    refine WO_seg 8 [(41, .bool false)] (by kernel_rfl) (by kernel_rfl) ?_
                    obtain rfl := Option.some.inj hr
                    exact WO_env _ (by kernel_rfl) (K _ _ ⟨m2, rfl, hm, st, r1⟩)
              · rw [if_neg (not_true hc)] at hr
                refine WO_fact (t := 47) (b := false) ((IntKind.wrap .i64 ((IntKind.wrap .i64 (o2 - p1)) + 1)) == 10) (by kernel_rfl) hc ?_
                refine WO_seg 11 [(55, .bool false), (58, .bool (decide ((IntKind.wrap .i64 ((IntKind.wrap .i64 (o2 - p1)) + 1)) > 1)))] (by kernel_rfl) (by kernel_rfl) ?_
                rcases bcases (decide ((IntKind.wrap .i64 ((IntKind.wrap .i64 (o2 - p1)) + 1)) > 1)) with hc | hc
                · rw [if_pos hc] at hr
                  refine WO_fact (t := 58) (b := true) (decide ((IntKind.wrap .i64 ((IntKind.wrap .i64 (o2 - p1)) + 1)) > 1)) (by kernel_rfl) hc ?_
                  refine WO_seg 2 [(59, .slice a1 (List.length p0) c1), (60, .int .i64 o2)] (by kernel_rfl) (by kernel_rfl) ?_
                  replace hr := bindS hr
                  obtain ⟨x4, hx4, hr⟩ := hr
                  refine WO_one rfl (One_index (d := 61) (t := 50) (e := 5) (x := (.tmp 59)) (y := (.tmp 60)) cU8 (by kernel_rfl) rfl (show evL _ _ = some (.slice a1 (List.length p0) c1) from (by kernel_rfl)) (show evL _ _ = some (.int .i64 o2) from (by kernel_rfl)) (by kernel_rfl) r1 hx4 ?_)
                  rintro b4 f4 cs4 rfl hq4
                  refine WO_one rfl (One_load_row (d := 62) (t := 5) (x := (.tmp 61)) (.int .u8 (x4.toNat : Int)) (by kernel_rfl) rfl (show evL _ _ = some (.pointer (some ⟨b4, f4, none⟩)) from (by kernel_rfl)) st hq4 (by kernel_rfl) ?_)
                  refine WO_seg 4 [(41, .bool ((x4.toNat : Int) == 0))] (by kernel_rfl) (by kernel_rfl) ?_
                  obtain rfl := Option.some.inj hr
                  exact WO_env _ (by kernel_rfl) (K _ _ ⟨m2, rfl, hm, st, r1⟩)
                · rw [if_neg (not_true hc)] at hr
                  refine WO_fact (t := 58) (b := false) (decide ((IntKind.wrap .i64 ((IntKind.wrap .i64 (o2 - p1)) + 1)) > 1)) (by kernel_rfl) hc ?_
                  refine WO_seg 8 [(41, .bool false)] (by kernel_rfl) (by kernel_rfl) ?_
                  obtain rfl := Option.some.inj hr
                  exact WO_env _ (by kernel_rfl) (K _ _ ⟨m2, rfl, hm, st, r1⟩)
      intro K0_u1
      clear hrKu1
      refine W_env _ (by kernel_rfl) (W_loop (fun k1 L' w' => ∃ (s1 : Int) (m3 : Mem), loopM (wire_Uint_L1 N p0) k1 s1 = some out1 ∧ L' = [(0, .slice a1 (List.length p0) c1), (1, .int .i64 p1), (4, .int .u64 0), (7, .int .i64 s1)] ∧ m.le m3 ∧ St m3 (own) w' ∧ RepS cU8 m3 a1 c1 p0) N ⟨p1, m1, hr, rfl, hm, st, r1⟩ ?_)
      clear st hr
      rintro k1 _ w3 ⟨s1, m3, hL, rfl, hm, st, r1⟩
      rcases k1 with _ | k1
      · exact loopM_zero hL
      · obtain ⟨qu1, hr, hSu1, hBu1⟩ := loopM_succ hL
        clear hL
        unfold wire_Uint_L1 at hr
        refine W_seq ?_
        refine W_seq ?_
        refine W_region ?_
        replace hr := bindS hr
        obtain ⟨o3, hr, hrK⟩ := hr
        refine WO_cut (j := 11) (fun L' w' => ∃ (m4 : Mem), L' = [(0, .slice a1 (List.length p0) c1), (1, .int .i64 p1), (4, .int .u64 0), (7, .int .i64 s1), (29, .bool o3)] ∧ m.le m4 ∧ St m4 (own) w' ∧ RepS cU8 m4 a1 c1 p0) ?_ ?_
        · clear hr st
          have hr := hrK
          clear hrK
          rintro _ w4 ⟨m4, rfl, hm, st, r1⟩
          refine WO_end rfl ?_
          refine X_then ?_
          refine W_cond o3 (by kernel_rfl) ?_ ?_
          · intro hc
            rw [if_pos hc] at hr
            refine W_skip ?_
            refine X_then ?_
            refine W_block ?_
            refine W_region ?_
            refine WO_seg 3 [(7, .int .i64 (IntKind.wrap .i64 (s1 + 1)))] (by kernel_rfl) (by kernel_rfl) ?_
            refine WO_end rfl ?_
            refine X_block ?_
            obtain rfl := Option.some.inj hr
            have hL := hSu1 _ rfl
            exact X_env _ (by kernel_rfl) (X_round k1 (Nat.lt_succ_self _) ⟨IntKind.wrap .i64 (s1 + 1), m4, hL, rfl, hm, st, r1⟩)
          · intro hc
            rw [if_neg (not_true hc)] at hr
            refine W_exit ?_
            refine X_then_exit ?_
            obtain rfl := Option.some.inj hr
            have ho := hBu1 _ rfl
            refine X_then_exit ?_
            exact X_env _ (by kernel_rfl) (K0_u1 _ _ ⟨s1, m4, ho, rfl, hm, st, r1⟩)
        · intro K
          clear hrK
          refine WO_seg 5 [(23, .bool (decide (s1 < (List.length p0 : Int))))] (by kernel_rfl) (by kernel_rfl) ?_
          rcases bcases (decide (s1 < (List.length p0 : Int))) with hc | hc
          · rw [if_pos hc] at hr
            refine WO_fact (t := 23) (b := true) (decide (s1 < (List.length p0 : Int))) (by kernel_rfl) hc ?_
            refine WO_seg 2 [(24, .slice a1 (List.length p0) c1), (25, .int .i64 s1)] (by kernel_rfl) (by kernel_rfl) ?_
            replace hr := bindS hr
            obtain ⟨x1, hx1, hr⟩ := hr
            refine WO_one rfl (One_index (d := 26) (t := 50) (e := 5) (x := (.tmp 24)) (y := (.tmp 25)) cU8 (by kernel_rfl) rfl (show evL _ _ = some (.slice a1 (List.length p0) c1) from (by kernel_rfl)) (show evL _ _ = some (.int .i64 s1) from (by kernel_rfl)) (by kernel_rfl) r1 hx1 ?_)
            rintro b1 f1 cs1 rfl hq1
            refine WO_one rfl (One_load_row (d := 27) (t := 5) (x := (.tmp 26)) (.int .u8 (x1.toNat : Int)) (by kernel_rfl) rfl (show evL _ _ = some (.pointer (some ⟨b1, f1, none⟩)) from (by kernel_rfl)) st hq1 (by kernel_rfl) ?_)
            refine WO_seg 2 [(29, .bool (decide ((x1.toNat : Int) ≥ 128)))] (by kernel_rfl) (by kernel_rfl) ?_
            obtain rfl := Option.some.inj hr
            exact WO_env _ (by kernel_rfl) (K _ _ ⟨m3, rfl, hm, st, r1⟩)
          · rw [if_neg (not_true hc)] at hr
            refine WO_fact (t := 23) (b := false) (decide (s1 < (List.length p0 : Int))) (by kernel_rfl) hc ?_
            refine WO_seg 6 [(29, .bool false)] (by kernel_rfl) (by kernel_rfl) ?_
            obtain rfl := Option.some.inj hr
            exact WO_env _ (by kernel_rfl) (K _ _ ⟨m3, rfl, hm, st, r1⟩)
  · intro K
    clear hrK
    refine WO_seg 3 [(12, .bool (decide (p1 < 0)))] (by kernel_rfl) (by kernel_rfl) ?_
    rcases bcases (decide (p1 < 0)) with hc | hc
    · rw [if_pos hc] at hr
      refine WO_fact (t := 12) (b := true) (decide (p1 < 0)) (by kernel_rfl) hc ?_
      refine WO_seg 5 [(17, .bool true)] (by kernel_rfl) (by kernel_rfl) ?_
      obtain rfl := Option.some.inj hr
      exact WO_env _ (by kernel_rfl) (K _ _ ⟨m, rfl, hm, st, r1⟩)
    · rw [if_neg (not_true hc)] at hr
      refine WO_fact (t := 12) (b := false) (decide (p1 < 0)) (by kernel_rfl) hc ?_
      refine WO_seg 5 [(17, .bool (decide (p1 > (List.length p0 : Int))))] (by kernel_rfl) (by kernel_rfl) ?_
      obtain rfl := Option.some.inj hr
      exact WO_env _ (by kernel_rfl) (K _ _ ⟨m, rfl, hm, st, r1⟩)

end Go.Proofs.Ytgkjigejejofkaa
