/- MADE BY gen.py: plain functions and the proofs that the Go functions compute them. No condition but those of each theorem. -/
import Derived.Test.YtfodebccikifcaaDoorProg
import Derived.Test.YtfodebccikifcaaDoorArr
namespace Go.Proofs.YtfodebccikifcaaDoor
open Go Go.Dc

def testgatemake_Fold (N : Nat) (p0 : Int) (p1 : Int) : Option (Int) :=
  if (decide (p1 ≤ 1)) = true then (some 0) else ((remS p0 p1).bind fun i1 => (if (decide (i1 < 0)) = true then (some (IntKind.wrap .i64 (i1 + p1))) else (some i1) : Option (Int)).bind fun o1 => some o1)

set_option maxHeartbeats 4000000 in
set_option maxRecDepth 100000 in
theorem testgatemake_Fold_ok {N : Nat} {m : Mem} {own : List Piece} {w : World} {p0 : Int} {p1 : Int} {r : Int} (st : St m (own) w) (hr : testgatemake_Fold N p0 p1 = some r) : Calls Go.Proofs.Tryd.prog 47 #[.int .i64 p0, .int .i64 p1] w fun e w' => ∃ (m' : Mem), e = .returned (.int .i64 r) ∧ m.le m' ∧ St m' (own) w' := by
  unfold testgatemake_Fold at hr
  have hm := m.le_refl
  refine W_calls Go.Proofs.Tryd.func47 rfl Go.Proofs.Tryd.ntmps47 [(0, .int .i64 p0), (1, .int .i64 p1)] (by kernel_rfl) rfl ?_
  refine W_seq ?_
  refine W_region ?_
  refine WO_seg 1 [] (by kernel_rfl) (by kernel_rfl) ?_
  refine WO_end rfl ?_
  refine X_then ?_
  refine W_seq ?_
  refine W_seq ?_
  refine W_region ?_
  refine WO_seg 2 [(6, .bool (decide (p1 ≤ 1)))] (by kernel_rfl) (by kernel_rfl) ?_
  refine WO_end rfl ?_
  refine X_then ?_
  refine W_cond (decide (p1 ≤ 1)) (by kernel_rfl) ?_ ?_
  · intro hc
    rw [if_pos hc] at hr
    refine W_seq ?_
    refine W_region ?_
    refine WO_seg 1 [(4, .int .i64 0)] (by kernel_rfl) (by kernel_rfl) ?_
    refine WO_end rfl ?_
    refine X_then ?_
    refine W_ret ?_
    refine X_then_ret ?_
    obtain rfl := Option.some.inj hr
    refine X_ret [.tmp 4] [.int .i64 0] rfl (ResAll.cons (ResAt.tmp (by kernel_rfl)) ResAll.nil) ?_
    exact ⟨m, rfl, hm, st⟩
  · intro hc
    rw [if_neg (not_true hc)] at hr
    refine W_skip ?_
    refine X_then ?_
    refine W_seq ?_
    refine W_region ?_
    refine WO_seg 2 [(7, .int .i64 p0), (8, .int .i64 p1)] (by kernel_rfl) (by kernel_rfl) ?_
    replace hr := bindS hr
    obtain ⟨i1, hx1, hr⟩ := hr
    refine WO_one rfl (One_rem (d := 9) (t := 3) (t2 := 3) (x := (.tmp 7)) (y := (.tmp 8)) (by kernel_rfl) rfl (show evL _ _ = some (.int .i64 p0) from (by kernel_rfl)) (show evL _ _ = some (.int .i64 p1) from (by kernel_rfl)) hx1 ?_)
    refine WO_seg 1 [(0, .int .i64 i1)] (by kernel_rfl) (by kernel_rfl) ?_
    refine WO_end rfl ?_
    refine X_then ?_
    refine W_seq ?_
    refine W_seq ?_
    refine W_region ?_
    refine WO_seg 2 [(11, .bool (decide (i1 < 0)))] (by kernel_rfl) (by kernel_rfl) ?_
    refine WO_end rfl ?_
    refine X_then ?_
    replace hr := bindS hr
    obtain ⟨o1, hr, hrKu1⟩ := hr
    refine W_cut .normal (fun L' w' => ∃ (m1 : Mem), L' = [(0, .int .i64 o1)] ∧ m.le m1 ∧ St m1 (own) w') ?_ ?_
    · clear hr st
      have hr := hrKu1
      clear hrKu1
      rintro _ w1 ⟨m1, rfl, hm, st⟩
      refine X_then ?_
      refine W_seq ?_
      refine W_region ?_
      refine WO_seg 2 [(4, .int .i64 o1)] (by kernel_rfl) (by kernel_rfl) ?_
      refine WO_end rfl ?_
      refine X_then ?_
      refine W_ret ?_
      obtain rfl := Option.some.inj hr
      refine X_ret [.tmp 4] [.int .i64 o1] rfl (ResAll.cons (ResAt.tmp (by kernel_rfl)) ResAll.nil) ?_
      exact ⟨m1, rfl, hm, st⟩
    · intro Ku1
      clear hrKu1
      refine W_cond (decide (i1 < 0)) (by kernel_rfl) ?_ ?_
      · intro hc
        rw [if_pos hc] at hr
        refine W_region ?_
        refine WO_seg 4 [(0, .int .i64 (IntKind.wrap .i64 (i1 + p1)))] (by kernel_rfl) (by kernel_rfl) ?_
        refine WO_end rfl ?_
        obtain rfl := Option.some.inj hr
        exact X_env _ (by kernel_rfl) (Ku1 _ _ ⟨m, rfl, hm, st⟩)
      · intro hc
        rw [if_neg (not_true hc)] at hr
        refine W_skip ?_
        obtain rfl := Option.some.inj hr
        exact X_env _ (by kernel_rfl) (Ku1 _ _ ⟨m, rfl, hm, st⟩)

def testgatemake_Tape_Next (N : Nat) (p0 : List Int × Int) (p1 : Int) : Option ((List Int × Int) × Int) :=
  (if (decide (p0.2 < (List.length p0.1 : Int))) = true then ((idx p0.1 p0.2).bind fun x1 => some x1) else (some (Int.tmod (IntKind.wrap .i64 (p0.2 * 7)) 11)) : Option (Int)).bind fun o1 => (testgatemake_Fold N o1 p1).bind fun y1 => some ((p0.1, IntKind.wrap .i64 (p0.2 + 1)), y1)

set_option maxHeartbeats 4000000 in
set_option maxRecDepth 100000 in
theorem testgatemake_Tape_Next_ok {N : Nat} {m : Mem} {own : List Piece} {w : World} {p0 : List Int × Int} {p1 : Int} {bp0 : Nat} {a1 : Option Addr} {c1 : Nat} {r : (List Int × Int) × Int} (st : St m (.blk bp0 (.cells #[.slice a1 (List.length p0.1) c1, .int .i64 p0.2] 29 (0, 0)) :: own) w) (r1 : RepS (cInt .i64) m a1 c1 p0.1) (hr : testgatemake_Tape_Next N p0 p1 = some r) : Calls Go.Proofs.Tryd.prog 22 #[.pointer (some ⟨bp0, 0, none⟩), .int .i64 p1] w fun e w' => ∃ (ra1 : Option Addr) (rc1 : Nat) (m' : Mem), e = .returned (.int .i64 r.2) ∧ m.le m' ∧ St m' (.blk bp0 (.cells #[.slice ra1 (List.length r.1.1) rc1, .int .i64 r.1.2] 29 (0, 0)) :: own) w' ∧ RepS (cInt .i64) m' ra1 rc1 r.1.1 := by
  unfold testgatemake_Tape_Next at hr
  have hm := m.le_refl
  refine W_calls Go.Proofs.Tryd.func22 rfl Go.Proofs.Tryd.ntmps22 [(0, .pointer (some ⟨bp0, 0, none⟩)), (1, .int .i64 p1)] (by kernel_rfl) rfl ?_
  refine W_seq ?_
  refine W_region ?_
  refine WO_seg 1 [] (by kernel_rfl) (by kernel_rfl) ?_
  refine WO_end rfl ?_
  refine X_then ?_
  refine W_seq ?_
  refine W_region ?_
  refine WO_seg 3 [(8, .pointer (some ⟨bp0, 1, none⟩))] (by kernel_rfl) (by kernel_rfl) ?_
  refine WO_one rfl (One_load_own (d := 9) (t := 3) (x := (.tmp 8)) (.int .i64 p0.2) (by kernel_rfl) rfl (show evL _ _ = some (.pointer (some ⟨bp0, 1, none⟩)) from (by kernel_rfl)) st.head (by kernel_rfl) ?_)
  refine WO_seg 3 [(5, .int .i64 (Int.tmod (IntKind.wrap .i64 (p0.2 * 7)) 11))] (by kernel_rfl) (by kernel_rfl) ?_
  refine WO_end rfl ?_
  refine X_then ?_
  refine W_seq ?_
  refine W_seq ?_
  refine W_draw [(10, fun w' => Inv m w' ∧ Piece.holds m w' (.blk bp0 (.cells #[.slice a1 (List.length p0.1) c1, .int .i64 p0.2] 29 (0, 0))) ∧ True)] (by kernel_rfl) st ?_
  clear st
  intro w1 _ st
  have hmS1 := m.le_refl
  refine ⟨⟨.inr ⟨Inv.anti st.inv hmS1, Piece.holds_anti st.head hmS1, trivial⟩, trivial⟩, ?_⟩
  refine WA_pure 0 12 (.pointer (some ⟨bp0, 0, none⟩)) (by kernel_rfl) rfl (by kernel_rfl) (.head _) (QP_then (QP_then QP_body)) ?_
  refine WA_pure 1 13 (.pointer (some ⟨bp0, 0, none⟩)) (by kernel_rfl) rfl (by kernel_rfl) (.head _) (QP_then (QP_then QP_body)) ?_
  refine WA_pure 2 14 (.pointer (some ⟨bp0, 1, none⟩)) (by kernel_rfl) rfl (by kernel_rfl) (.head _) (QP_then (QP_then QP_body)) ?_
  refine WA_load_own (t := 3) (x := (.tmp 14)) 3 15 (.int .i64 p0.2) (by kernel_rfl) rfl (by kernel_rfl) (.head _) (QP_then (QP_then QP_body)) (fun _ h => h.2.1) (show evL _ _ = some (.pointer (some ⟨bp0, 1, none⟩)) from (by kernel_rfl)) (by kernel_rfl) ?_
  refine WA_pure 4 16 (.pointer (some ⟨bp0, 0, none⟩)) (by kernel_rfl) rfl (by kernel_rfl) (.head _) (QP_then (QP_then QP_body)) ?_
  refine WA_pure 5 17 (.pointer (some ⟨bp0, 0, none⟩)) (by kernel_rfl) rfl (by kernel_rfl) (.head _) (QP_then (QP_then QP_body)) ?_
  refine WA_pure 6 18 (.pointer (some ⟨bp0, 0, none⟩)) (by kernel_rfl) rfl (by kernel_rfl) (.head _) (QP_then (QP_then QP_body)) ?_
  refine WA_load_own (t := 26) (x := (.tmp 18)) 7 19 (.slice a1 (List.length p0.1) c1) (by kernel_rfl) rfl (by kernel_rfl) (.head _) (QP_then (QP_then QP_body)) (fun _ h => h.2.1) (show evL _ _ = some (.pointer (some ⟨bp0, 0, none⟩)) from (by kernel_rfl)) (by kernel_rfl) ?_
  refine WA_pure 8 20 (.int .i64 (List.length p0.1 : Int)) (by kernel_rfl) rfl (by kernel_rfl) (.head _) (QP_then (QP_then QP_body)) ?_
  refine WA_pure 9 21 (.bool (decide (p0.2 < (List.length p0.1 : Int)))) (by kernel_rfl) rfl (by kernel_rfl) (.head _) (QP_then (QP_then QP_body)) ?_
  refine WA_done (by kernel_rfl) ?_
  refine X_then ?_
  replace hr := bindS hr
  obtain ⟨o1, hr, hrKu1⟩ := hr
  refine W_cut .normal (fun L' w' => ∃ (m1 : Mem), L' = [(0, .pointer (some ⟨bp0, 0, none⟩)), (1, .int .i64 p1), (5, .int .i64 o1)] ∧ m.le m1 ∧ St m1 (.blk bp0 (.cells #[.slice a1 (List.length p0.1) c1, .int .i64 p0.2] 29 (0, 0)) :: own) w' ∧ RepS (cInt .i64) m1 a1 c1 p0.1) ?_ ?_
  · clear hr st
    have hr := hrKu1
    clear hrKu1
    rintro _ w2 ⟨m1, rfl, hm, st, r1⟩
    refine X_then ?_
    refine W_seq ?_
    refine W_region ?_
    refine WO_seg 3 [(32, .pointer (some ⟨bp0, 0, none⟩)), (34, .pointer (some ⟨bp0, 1, none⟩))] (by kernel_rfl) (by kernel_rfl) ?_
    refine WO_one rfl (One_load_own (d := 35) (t := 3) (x := (.tmp 34)) (.int .i64 p0.2) (by kernel_rfl) rfl (show evL _ _ = some (.pointer (some ⟨bp0, 1, none⟩)) from (by kernel_rfl)) st.head (by kernel_rfl) ?_)
    refine WO_seg 3 [(36, .int .i64 (IntKind.wrap .i64 (p0.2 + 1))), (38, .pointer (some ⟨bp0, 1, none⟩))] (by kernel_rfl) (by kernel_rfl) ?_
    refine WO_one rfl (One_store (t := 3) (x := (.tmp 38)) (y := (.tmp 36)) (v := .int .i64 (IntKind.wrap .i64 (p0.2 + 1))) (c' := #[.slice a1 (List.length p0.1) c1, .int .i64 (IntKind.wrap .i64 (p0.2 + 1))]) (by kernel_rfl) (show evL _ _ = some (.pointer (some ⟨bp0, 1, none⟩)) from (by kernel_rfl)) (show evL _ _ = some (.int .i64 (IntKind.wrap .i64 (p0.2 + 1))) from (by kernel_rfl)) st (by kernel_rfl) (by kernel_rfl) ?_)
    clear st
    intro w4 st
    refine WO_end rfl ?_
    refine X_then ?_
    refine W_seq ?_
    refine W_region ?_
    refine WO_seg 2 [(39, .int .i64 o1), (40, .int .i64 p1)] (by kernel_rfl) (by kernel_rfl) ?_
    replace hr := bindS hr
    obtain ⟨y1, hx2, hr⟩ := hr
    refine WO_one rfl (One_fn 41 47 #[.int .i64 o1, .int .i64 p1] (by kernel_rfl) rfl ?_)
    refine (testgatemake_Fold_ok st hx2).mono ?_
    clear st
    rintro _ w5 ⟨m2, rfl, hle1, st⟩
    refine ⟨_, rfl, ?_⟩
    have hm := Mem.le_trans hm hle1
    have r1 := r1.mono hle1
    refine WO_seg 1 [(4, .int .i64 y1)] (by kernel_rfl) (by kernel_rfl) ?_
    refine WO_end rfl ?_
    refine X_then ?_
    refine W_ret ?_
    obtain rfl := Option.some.inj hr
    refine X_ret [.tmp 4] [.int .i64 y1] rfl (ResAll.cons (ResAt.tmp (by kernel_rfl)) ResAll.nil) ?_
    exact ⟨a1, c1, m2, rfl, hm, st, r1⟩
  · intro Ku1
    clear hrKu1
    refine W_cond (decide (p0.2 < (List.length p0.1 : Int))) (by kernel_rfl) ?_ ?_
    · intro hc
      rw [if_pos hc] at hr
      refine W_draw [(11, fun w' => Inv m w' ∧ Piece.holds m w' (.blk bp0 (.cells #[.slice a1 (List.length p0.1) c1, .int .i64 p0.2] 29 (0, 0))) ∧ True)] (by kernel_rfl) st ?_
      clear st
      intro w3 _ st
      have hmS2 := m.le_refl
      refine ⟨⟨.inr ⟨Inv.anti st.inv hmS2, Piece.holds_anti st.head hmS2, trivial⟩, trivial⟩, ?_⟩
      refine WA_pure 0 22 (.pointer (some ⟨bp0, 0, none⟩)) (by kernel_rfl) rfl (by kernel_rfl) (.head _) (QP_then QP_body) ?_
      refine WA_pure 1 23 (.pointer (some ⟨bp0, 0, none⟩)) (by kernel_rfl) rfl (by kernel_rfl) (.head _) (QP_then QP_body) ?_
      refine WA_pure 2 24 (.pointer (some ⟨bp0, 0, none⟩)) (by kernel_rfl) rfl (by kernel_rfl) (.head _) (QP_then QP_body) ?_
      refine WA_load_own (t := 26) (x := (.tmp 24)) 3 25 (.slice a1 (List.length p0.1) c1) (by kernel_rfl) rfl (by kernel_rfl) (.head _) (QP_then QP_body) (fun _ h => h.2.1) (show evL _ _ = some (.pointer (some ⟨bp0, 0, none⟩)) from (by kernel_rfl)) (by kernel_rfl) ?_
      refine WA_pure 4 26 (.pointer (some ⟨bp0, 0, none⟩)) (by kernel_rfl) rfl (by kernel_rfl) (.head _) (QP_then QP_body) ?_
      refine WA_pure 5 27 (.pointer (some ⟨bp0, 0, none⟩)) (by kernel_rfl) rfl (by kernel_rfl) (.head _) (QP_then QP_body) ?_
      refine WA_pure 6 28 (.pointer (some ⟨bp0, 1, none⟩)) (by kernel_rfl) rfl (by kernel_rfl) (.head _) (QP_then QP_body) ?_
      refine WA_load_own (t := 3) (x := (.tmp 28)) 7 29 (.int .i64 p0.2) (by kernel_rfl) rfl (by kernel_rfl) (.head _) (QP_then QP_body) (fun _ h => h.2.1) (show evL _ _ = some (.pointer (some ⟨bp0, 1, none⟩)) from (by kernel_rfl)) (by kernel_rfl) ?_
      replace hr := bindS hr
      obtain ⟨x1, hx1, hr⟩ := hr
      refine WA_index (t := 26) (e := 3) (x := (.tmp 25)) (y := (.tmp 29)) 8 30 (cInt .i64) (by kernel_rfl) rfl (by kernel_rfl) (.head _) (QP_then QP_body) (show evL _ _ = some (.slice a1 (List.length p0.1) c1) from (by kernel_rfl)) (show evL _ _ = some (.int .i64 p0.2) from (by kernel_rfl)) (by kernel_rfl) r1 hx1 ?_
      rintro b1 f1 cs1 rfl hq1
      refine WA_load_row (t := 3) (x := (.tmp 30)) 9 31 (.int .i64 x1) (by kernel_rfl) rfl (by kernel_rfl) (.head _) (QP_then QP_body) (fun _ h => h.1) (show evL _ _ = some (.pointer (some ⟨b1, f1, none⟩)) from (by kernel_rfl)) hq1 (by kernel_rfl) ?_
      refine WA_pure 10 5 (.int .i64 x1) (by kernel_rfl) rfl (by kernel_rfl) (.head _) (QP_then QP_body) ?_
      refine WA_done (by kernel_rfl) ?_
      obtain rfl := Option.some.inj hr
      exact X_env _ (by kernel_rfl) (Ku1 _ _ ⟨m, rfl, hm, st, r1⟩)
    · intro hc
      rw [if_neg (not_true hc)] at hr
      refine W_skip ?_
      obtain rfl := Option.some.inj hr
      exact X_env _ (by kernel_rfl) (Ku1 _ _ ⟨m, rfl, hm, st, r1⟩)

def testgatemake_Tape_One (N : Nat) (p0 : List Int × Int) (p1 : List ByteArray) : Option ((List Int × Int) × ByteArray) :=
  if ((List.length p1 : Int) == 0) = true then (some ((p0.1, p0.2), (⟨#[]⟩ : ByteArray))) else ((testgatemake_Tape_Next N (p0.1, p0.2) (List.length p1 : Int)).bind fun y1 => (idx p1 y1.2).bind fun x1 => some ((y1.1.1, y1.1.2), x1))

set_option maxHeartbeats 4000000 in
set_option maxRecDepth 100000 in
theorem testgatemake_Tape_One_ok {N : Nat} {m : Mem} {own : List Piece} {w : World} {p0 : List Int × Int} {p1 : List ByteArray} {bp0 : Nat} {a1 : Option Addr} {c1 : Nat} {a2 : Option Addr} {c2 : Nat} {r : (List Int × Int) × ByteArray} (st : St m (.blk bp0 (.cells #[.slice a1 (List.length p0.1) c1, .int .i64 p0.2] 29 (0, 0)) :: own) w) (r1 : RepS (cInt .i64) m a1 c1 p0.1) (r2 : RepS cStr m a2 c2 p1) (hr : testgatemake_Tape_One N p0 p1 = some r) : Calls Go.Proofs.Tryd.prog 21 #[.pointer (some ⟨bp0, 0, none⟩), .slice a2 (List.length p1) c2] w fun e w' => ∃ (ra1 : Option Addr) (rc1 : Nat) (m' : Mem), e = .returned (.string r.2) ∧ m.le m' ∧ St m' (.blk bp0 (.cells #[.slice ra1 (List.length r.1.1) rc1, .int .i64 r.1.2] 29 (0, 0)) :: own) w' ∧ RepS (cInt .i64) m' ra1 rc1 r.1.1 := by
  unfold testgatemake_Tape_One at hr
  have hm := m.le_refl
  refine W_calls Go.Proofs.Tryd.func21 rfl Go.Proofs.Tryd.ntmps21 [(0, .pointer (some ⟨bp0, 0, none⟩)), (1, .slice a2 (List.length p1) c2)] (by kernel_rfl) rfl ?_
  refine W_seq ?_
  refine W_region ?_
  refine WO_seg 1 [] (by kernel_rfl) (by kernel_rfl) ?_
  refine WO_end rfl ?_
  refine X_then ?_
  refine W_seq ?_
  refine W_seq ?_
  refine W_region ?_
  refine WO_seg 3 [(7, .bool ((List.length p1 : Int) == 0))] (by kernel_rfl) (by kernel_rfl) ?_
  refine WO_end rfl ?_
  refine X_then ?_
  refine W_cond ((List.length p1 : Int) == 0) (by kernel_rfl) ?_ ?_
  · intro hc
    rw [if_pos hc] at hr
    refine W_seq ?_
    refine W_region ?_
    refine WO_seg 1 [(4, .string (⟨#[]⟩ : ByteArray))] (by kernel_rfl) (by kernel_rfl) ?_
    refine WO_end rfl ?_
    refine X_then ?_
    refine W_ret ?_
    refine X_then_ret ?_
    obtain rfl := Option.some.inj hr
    refine X_ret [.tmp 4] [.string (⟨#[]⟩ : ByteArray)] rfl (ResAll.cons (ResAt.tmp (by kernel_rfl)) ResAll.nil) ?_
    exact ⟨a1, c1, m, rfl, hm, st, r1⟩
  · intro hc
    rw [if_neg (not_true hc)] at hr
    refine W_skip ?_
    refine X_then ?_
    refine W_seq ?_
    refine W_region ?_
    refine WO_seg 4 [(8, .slice a2 (List.length p1) c2), (9, .pointer (some ⟨bp0, 0, none⟩)), (11, .int .i64 (List.length p1 : Int))] (by kernel_rfl) (by kernel_rfl) ?_
    replace hr := bindS hr
    obtain ⟨y1, hx1, hr⟩ := hr
    refine WO_one rfl (One_fn 12 22 #[.pointer (some ⟨bp0, 0, none⟩), .int .i64 (List.length p1 : Int)] (by kernel_rfl) rfl ?_)
    refine (testgatemake_Tape_Next_ok st r1 hx1).mono ?_
    clear st
    rintro _ w1 ⟨a3, c3, m1, rfl, hle1, st, r3⟩
    refine ⟨_, rfl, ?_⟩
    have hm := Mem.le_trans hm hle1
    have r2 := r2.mono hle1
    have r1 := r1.mono hle1
    replace hr := bindS hr
    obtain ⟨x1, hx2, hr⟩ := hr
    refine WO_one rfl (One_index (d := 13) (t := 30) (e := 9) (x := (.tmp 8)) (y := (.tmp 12)) cStr (by kernel_rfl) rfl (show evL _ _ = some (.slice a2 (List.length p1) c2) from (by kernel_rfl)) (show evL _ _ = some (.int .i64 y1.2) from (by kernel_rfl)) (by kernel_rfl) r2 hx2 ?_)
    rintro b1 f1 cs1 rfl hq1
    refine WO_one rfl (One_load_row (d := 14) (t := 9) (x := (.tmp 13)) (.string x1) (by kernel_rfl) rfl (show evL _ _ = some (.pointer (some ⟨b1, f1, none⟩)) from (by kernel_rfl)) st hq1 (by kernel_rfl) ?_)
    refine WO_seg 1 [(4, .string x1)] (by kernel_rfl) (by kernel_rfl) ?_
    refine WO_end rfl ?_
    refine X_then ?_
    refine W_ret ?_
    obtain rfl := Option.some.inj hr
    refine X_ret [.tmp 4] [.string x1] rfl (ResAll.cons (ResAt.tmp (by kernel_rfl)) ResAll.nil) ?_
    exact ⟨a3, c3, m1, rfl, hm, st, r3⟩

def testgatelaw04_words_L1 (N : Nat) (s1 : List (ByteArray) × Int × List (Int) × Int) : Option ((List (ByteArray) × Int × List (Int) × Int) ⊕ ((List (ByteArray) × List (Int) × Int))) :=
  if (decide (s1.2.1 > 0)) = true then ((testgatemake_Tape_One N (s1.2.2.1, s1.2.2.2) ([(⟨#[97]⟩ : ByteArray), (⟨#[98, 57, 95]⟩ : ByteArray), (⟨#[105, 102]⟩ : ByteArray), (⟨#[48]⟩ : ByteArray), (⟨#[48, 48, 55]⟩ : ByteArray), (⟨#[57, 48, 48, 55, 49, 57, 57, 50, 53, 52, 55, 52, 48, 57, 57, 50]⟩ : ByteArray), (⟨#[57, 48, 48, 55, 49, 57, 57, 50, 53, 52, 55, 52, 48, 57, 57, 51]⟩ : ByteArray), (⟨#[57, 57, 57, 57, 57, 57, 57, 57, 57, 57, 57, 57, 57, 57, 57, 57, 57, 57, 57, 57]⟩ : ByteArray), (⟨#[34, 97, 47, 98, 34]⟩ : ByteArray), (⟨#[34, 34]⟩ : ByteArray), (⟨#[34, 32, 120, 34]⟩ : ByteArray), (⟨#[59]⟩ : ByteArray), (⟨#[44]⟩ : ByteArray), (⟨#[40]⟩ : ByteArray), (⟨#[41]⟩ : ByteArray), (⟨#[43]⟩ : ByteArray), (⟨#[45]⟩ : ByteArray), (⟨#[42]⟩ : ByteArray), (⟨#[47]⟩ : ByteArray), (⟨#[37]⟩ : ByteArray), (⟨#[60]⟩ : ByteArray), (⟨#[61]⟩ : ByteArray), (⟨#[61, 61]⟩ : ByteArray), (⟨#[97, 98, 99, 100, 101, 102, 103, 104, 105, 106, 107, 108, 109, 110, 111, 112, 113, 114, 115, 116, 117, 118, 119, 120]⟩ : ByteArray), (⟨#[97, 98, 99, 100, 101, 102, 103, 104, 105, 106, 107, 108, 109, 110, 111, 112, 113, 114, 115, 116, 117, 118, 119, 120, 121]⟩ : ByteArray)])).bind fun y2 => (appendS 16 s1.1 ([y2.2])).bind fun l1 => some (.inl (l1, IntKind.wrap .i64 (s1.2.1 - 1), y2.1.1, y2.1.2))) else (some (.inr (s1.1, s1.2.2.1, s1.2.2.2)))

def testgatelaw04_words (N : Nat) (p0 : List Int × Int) : Option ((List Int × Int) × List ByteArray) :=
  (testgatemake_Tape_Next N (p0.1, p0.2) 14).bind fun y1 => (loopM (testgatelaw04_words_L1 N) N (([] : List (ByteArray)), y1.2, y1.1.1, y1.1.2)).bind fun o1 => some ((o1.2.1, o1.2.2), o1.1)

set_option maxHeartbeats 4000000 in
set_option maxRecDepth 100000 in
theorem testgatelaw04_words_ok {N : Nat} {m : Mem} {own : List Piece} {w : World} {p0 : List Int × Int} {bp0 : Nat} {a1 : Option Addr} {c1 : Nat} {r : (List Int × Int) × List ByteArray} (st : St m (.blk bp0 (.cells #[.slice a1 (List.length p0.1) c1, .int .i64 p0.2] 29 (0, 0)) :: own) w) (r1 : RepS (cInt .i64) m a1 c1 p0.1) (hr : testgatelaw04_words N p0 = some r) : Calls Go.Proofs.Tryd.prog 20 #[.pointer (some ⟨bp0, 0, none⟩)] w fun e w' => ∃ (ra1 : Option Addr) (rc1 : Nat) (ra2 : Option Addr) (rc2 : Nat) (m' : Mem), e = .returned (.slice ra2 (List.length r.2) rc2) ∧ m.le m' ∧ St m' (.room ra2 (List.length r.2) rc2 9 1 :: .blk bp0 (.cells #[.slice ra1 (List.length r.1.1) rc1, .int .i64 r.1.2] 29 (0, 0)) :: own) w' ∧ RepS (cInt .i64) m' ra1 rc1 r.1.1 ∧ RepS cStr m' ra2 rc2 r.2 := by
  unfold testgatelaw04_words at hr
  have hm := m.le_refl
  refine W_calls Go.Proofs.Tryd.func20 rfl Go.Proofs.Tryd.ntmps20 [(0, .pointer (some ⟨bp0, 0, none⟩))] (by kernel_rfl) rfl ?_
  refine W_seq ?_
  refine W_region ?_
  refine WO_seg 1 [] (by kernel_rfl) (by kernel_rfl) ?_
  refine WO_end rfl ?_
  refine X_then ?_
  refine W_seq ?_
  refine W_region ?_
  refine WO_seg 1 [(3, .slice none (List.length ([] : List (ByteArray))) 0)] (by kernel_rfl) (by kernel_rfl) ?_
  refine WO_end rfl ?_
  refine X_then ?_
  refine W_seq ?_
  refine W_seq ?_
  refine W_region ?_
  refine WO_seg 1 [(5, .pointer (some ⟨bp0, 0, none⟩))] (by kernel_rfl) (by kernel_rfl) ?_
  replace hr := bindS hr
  obtain ⟨y1, hx1, hr⟩ := hr
  refine WO_one rfl (One_fn 6 22 #[.pointer (some ⟨bp0, 0, none⟩), .int .i64 14] (by kernel_rfl) rfl ?_)
  refine (testgatemake_Tape_Next_ok st r1 hx1).mono ?_
  clear st
  rintro _ w1 ⟨a2, c2, m1, rfl, hle1, st, r2⟩
  refine ⟨_, rfl, ?_⟩
  have hm := Mem.le_trans hm hle1
  have r1 := r1.mono hle1
  refine WO_seg 1 [(4, .int .i64 y1.2)] (by kernel_rfl) (by kernel_rfl) ?_
  refine WO_end rfl ?_
  refine X_then ?_
  refine W_block ?_
  replace hr := bindS hr
  obtain ⟨out1, hr, hrKu1⟩ := hr
  refine W_cut (.exit 0) (fun L' w' => ∃ (o1 : List (ByteArray) × List (Int) × Int) (a3 : Option Addr) (c3 : Nat) (a4 : Option Addr) (c4 : Nat) (m2 : Mem), o1 = out1 ∧ L' = [(3, .slice a3 (List.length o1.1) c3)] ∧ m.le m2 ∧ St m2 (.blk bp0 (.cells #[.slice a4 (List.length o1.2.1) c4, .int .i64 o1.2.2] 29 (0, 0)) :: .room a3 (List.length o1.1) c3 9 1 :: own) w' ∧ RepS cStr m2 a3 c3 o1.1 ∧ RepS (cInt .i64) m2 a4 c4 o1.2.1) ?_ ?_
  · clear hr st
    rintro _ w2 ⟨o1, a3, c3, a4, c4, m2, rfl, rfl, hm, st, r3, r4⟩
    have hr := hrKu1
    clear hrKu1
    refine X_block_eq ?_
    refine X_then ?_
    refine W_seq ?_
    refine W_region ?_
    refine WO_seg 2 [(2, .slice a3 (List.length o1.1) c3)] (by kernel_rfl) (by kernel_rfl) ?_
    refine WO_end rfl ?_
    refine X_then ?_
    refine W_ret ?_
    obtain rfl := Option.some.inj hr
    refine X_ret [.tmp 2] [.slice a3 (List.length o1.1) c3] rfl (ResAll.cons (ResAt.tmp (by kernel_rfl)) ResAll.nil) ?_
    have st := st.front1
    exact ⟨a4, c4, a3, c3, m2, rfl, hm, st, r4, r3⟩
  intro K0_u1
  clear hrKu1
  have st := st.nilroom 9 1
  have st := st.front1
  refine W_env _ (by kernel_rfl) (W_loop (fun k1 L' w' => ∃ (s1 : List (ByteArray) × Int × List (Int) × Int) (a5 : Option Addr) (c5 : Nat) (a6 : Option Addr) (c6 : Nat) (m3 : Mem), loopM (testgatelaw04_words_L1 N) k1 s1 = some out1 ∧ L' = [(0, .pointer (some ⟨bp0, 0, none⟩)), (3, .slice a5 (List.length s1.1) c5), (4, .int .i64 s1.2.1)] ∧ m.le m3 ∧ St m3 (.blk bp0 (.cells #[.slice a6 (List.length s1.2.2.1) c6, .int .i64 s1.2.2.2] 29 (0, 0)) :: .room a5 (List.length s1.1) c5 9 1 :: own) w' ∧ RepS cStr m3 a5 c5 s1.1 ∧ RepS (cInt .i64) m3 a6 c6 s1.2.2.1) N ⟨(([] : List (ByteArray)), y1.2, y1.1.1, y1.1.2), none, 0, a2, c2, m1, hr, rfl, hm, st, (RepS.nil _ _), r2⟩ ?_)
  clear st hr
  rintro k1 _ w3 ⟨s1, a5, c5, a6, c6, m3, hL, rfl, hm, st, r5, r6⟩
  rcases k1 with _ | k1
  · exact loopM_zero hL
  · obtain ⟨qu1, hr, hSu1, hBu1⟩ := loopM_succ hL
    clear hL
    unfold testgatelaw04_words_L1 at hr
    refine W_seq ?_
    refine W_seq ?_
    refine W_region ?_
    refine WO_seg 2 [(8, .bool (decide (s1.2.1 > 0)))] (by kernel_rfl) (by kernel_rfl) ?_
    refine WO_end rfl ?_
    refine X_then ?_
    refine W_cond (decide (s1.2.1 > 0)) (by kernel_rfl) ?_ ?_
    · intro hc
      rw [if_pos hc] at hr
      refine W_skip ?_
      refine X_then ?_
      refine W_seq ?_
      refine W_block ?_
      refine W_region ?_
      refine WO_seg 2 [(11, .slice a5 (List.length s1.1) c5), (12, .pointer (some ⟨bp0, 0, none⟩))] (by kernel_rfl) (by kernel_rfl) ?_
      refine WO_one rfl (One_buildSlice (d := 13) (t := 30) (e := 9) (len := 25) (parts := #[(0, (.const (.string (⟨#[97]⟩ : ByteArray)))), (1, (.const (.string (⟨#[98, 57, 95]⟩ : ByteArray)))), (2, (.const (.string (⟨#[105, 102]⟩ : ByteArray)))), (3, (.const (.string (⟨#[48]⟩ : ByteArray)))), (4, (.const (.string (⟨#[48, 48, 55]⟩ : ByteArray)))), (5, (.const (.string (⟨#[57, 48, 48, 55, 49, 57, 57, 50, 53, 52, 55, 52, 48, 57, 57, 50]⟩ : ByteArray)))), (6, (.const (.string (⟨#[57, 48, 48, 55, 49, 57, 57, 50, 53, 52, 55, 52, 48, 57, 57, 51]⟩ : ByteArray)))), (7, (.const (.string (⟨#[57, 57, 57, 57, 57, 57, 57, 57, 57, 57, 57, 57, 57, 57, 57, 57, 57, 57, 57, 57]⟩ : ByteArray)))), (8, (.const (.string (⟨#[34, 97, 47, 98, 34]⟩ : ByteArray)))), (9, (.const (.string (⟨#[34, 34]⟩ : ByteArray)))), (10, (.const (.string (⟨#[34, 32, 120, 34]⟩ : ByteArray)))), (11, (.const (.string (⟨#[59]⟩ : ByteArray)))), (12, (.const (.string (⟨#[44]⟩ : ByteArray)))), (13, (.const (.string (⟨#[40]⟩ : ByteArray)))), (14, (.const (.string (⟨#[41]⟩ : ByteArray)))), (15, (.const (.string (⟨#[43]⟩ : ByteArray)))), (16, (.const (.string (⟨#[45]⟩ : ByteArray)))), (17, (.const (.string (⟨#[42]⟩ : ByteArray)))), (18, (.const (.string (⟨#[47]⟩ : ByteArray)))), (19, (.const (.string (⟨#[37]⟩ : ByteArray)))), (20, (.const (.string (⟨#[60]⟩ : ByteArray)))), (21, (.const (.string (⟨#[61]⟩ : ByteArray)))), (22, (.const (.string (⟨#[61, 61]⟩ : ByteArray)))), (23, (.const (.string (⟨#[97, 98, 99, 100, 101, 102, 103, 104, 105, 106, 107, 108, 109, 110, 111, 112, 113, 114, 115, 116, 117, 118, 119, 120]⟩ : ByteArray)))), (24, (.const (.string (⟨#[97, 98, 99, 100, 101, 102, 103, 104, 105, 106, 107, 108, 109, 110, 111, 112, 113, 114, 115, 116, 117, 118, 119, 120, 121]⟩ : ByteArray))))]) cStr (xs := [(⟨#[97]⟩ : ByteArray), (⟨#[98, 57, 95]⟩ : ByteArray), (⟨#[105, 102]⟩ : ByteArray), (⟨#[48]⟩ : ByteArray), (⟨#[48, 48, 55]⟩ : ByteArray), (⟨#[57, 48, 48, 55, 49, 57, 57, 50, 53, 52, 55, 52, 48, 57, 57, 50]⟩ : ByteArray), (⟨#[57, 48, 48, 55, 49, 57, 57, 50, 53, 52, 55, 52, 48, 57, 57, 51]⟩ : ByteArray), (⟨#[57, 57, 57, 57, 57, 57, 57, 57, 57, 57, 57, 57, 57, 57, 57, 57, 57, 57, 57, 57]⟩ : ByteArray), (⟨#[34, 97, 47, 98, 34]⟩ : ByteArray), (⟨#[34, 34]⟩ : ByteArray), (⟨#[34, 32, 120, 34]⟩ : ByteArray), (⟨#[59]⟩ : ByteArray), (⟨#[44]⟩ : ByteArray), (⟨#[40]⟩ : ByteArray), (⟨#[41]⟩ : ByteArray), (⟨#[43]⟩ : ByteArray), (⟨#[45]⟩ : ByteArray), (⟨#[42]⟩ : ByteArray), (⟨#[47]⟩ : ByteArray), (⟨#[37]⟩ : ByteArray), (⟨#[60]⟩ : ByteArray), (⟨#[61]⟩ : ByteArray), (⟨#[61, 61]⟩ : ByteArray), (⟨#[97, 98, 99, 100, 101, 102, 103, 104, 105, 106, 107, 108, 109, 110, 111, 112, 113, 114, 115, 116, 117, 118, 119, 120]⟩ : ByteArray), (⟨#[97, 98, 99, 100, 101, 102, 103, 104, 105, 106, 107, 108, 109, 110, 111, 112, 113, 114, 115, 116, 117, 118, 119, 120, 121]⟩ : ByteArray)]) [.string (⟨#[97]⟩ : ByteArray), .string (⟨#[98, 57, 95]⟩ : ByteArray), .string (⟨#[105, 102]⟩ : ByteArray), .string (⟨#[48]⟩ : ByteArray), .string (⟨#[48, 48, 55]⟩ : ByteArray), .string (⟨#[57, 48, 48, 55, 49, 57, 57, 50, 53, 52, 55, 52, 48, 57, 57, 50]⟩ : ByteArray), .string (⟨#[57, 48, 48, 55, 49, 57, 57, 50, 53, 52, 55, 52, 48, 57, 57, 51]⟩ : ByteArray), .string (⟨#[57, 57, 57, 57, 57, 57, 57, 57, 57, 57, 57, 57, 57, 57, 57, 57, 57, 57, 57, 57]⟩ : ByteArray), .string (⟨#[34, 97, 47, 98, 34]⟩ : ByteArray), .string (⟨#[34, 34]⟩ : ByteArray), .string (⟨#[34, 32, 120, 34]⟩ : ByteArray), .string (⟨#[59]⟩ : ByteArray), .string (⟨#[44]⟩ : ByteArray), .string (⟨#[40]⟩ : ByteArray), .string (⟨#[41]⟩ : ByteArray), .string (⟨#[43]⟩ : ByteArray), .string (⟨#[45]⟩ : ByteArray), .string (⟨#[42]⟩ : ByteArray), .string (⟨#[47]⟩ : ByteArray), .string (⟨#[37]⟩ : ByteArray), .string (⟨#[60]⟩ : ByteArray), .string (⟨#[61]⟩ : ByteArray), .string (⟨#[61, 61]⟩ : ByteArray), .string (⟨#[97, 98, 99, 100, 101, 102, 103, 104, 105, 106, 107, 108, 109, 110, 111, 112, 113, 114, 115, 116, 117, 118, 119, 120]⟩ : ByteArray), .string (⟨#[97, 98, 99, 100, 101, 102, 103, 104, 105, 106, 107, 108, 109, 110, 111, 112, 113, 114, 115, 116, 117, 118, 119, 120, 121]⟩ : ByteArray)] (by kernel_rfl) rfl (fun _ => buildCells_run (by kernel_rfl) _) rfl rfl st ⟨[.string (⟨#[97]⟩ : ByteArray)], _, rfl, rfl, ⟨[.string (⟨#[98, 57, 95]⟩ : ByteArray)], _, rfl, rfl, ⟨[.string (⟨#[105, 102]⟩ : ByteArray)], _, rfl, rfl, ⟨[.string (⟨#[48]⟩ : ByteArray)], _, rfl, rfl, ⟨[.string (⟨#[48, 48, 55]⟩ : ByteArray)], _, rfl, rfl, ⟨[.string (⟨#[57, 48, 48, 55, 49, 57, 57, 50, 53, 52, 55, 52, 48, 57, 57, 50]⟩ : ByteArray)], _, rfl, rfl, ⟨[.string (⟨#[57, 48, 48, 55, 49, 57, 57, 50, 53, 52, 55, 52, 48, 57, 57, 51]⟩ : ByteArray)], _, rfl, rfl, ⟨[.string (⟨#[57, 57, 57, 57, 57, 57, 57, 57, 57, 57, 57, 57, 57, 57, 57, 57, 57, 57, 57, 57]⟩ : ByteArray)], _, rfl, rfl, ⟨[.string (⟨#[34, 97, 47, 98, 34]⟩ : ByteArray)], _, rfl, rfl, ⟨[.string (⟨#[34, 34]⟩ : ByteArray)], _, rfl, rfl, ⟨[.string (⟨#[34, 32, 120, 34]⟩ : ByteArray)], _, rfl, rfl, ⟨[.string (⟨#[59]⟩ : ByteArray)], _, rfl, rfl, ⟨[.string (⟨#[44]⟩ : ByteArray)], _, rfl, rfl, ⟨[.string (⟨#[40]⟩ : ByteArray)], _, rfl, rfl, ⟨[.string (⟨#[41]⟩ : ByteArray)], _, rfl, rfl, ⟨[.string (⟨#[43]⟩ : ByteArray)], _, rfl, rfl, ⟨[.string (⟨#[45]⟩ : ByteArray)], _, rfl, rfl, ⟨[.string (⟨#[42]⟩ : ByteArray)], _, rfl, rfl, ⟨[.string (⟨#[47]⟩ : ByteArray)], _, rfl, rfl, ⟨[.string (⟨#[37]⟩ : ByteArray)], _, rfl, rfl, ⟨[.string (⟨#[60]⟩ : ByteArray)], _, rfl, rfl, ⟨[.string (⟨#[61]⟩ : ByteArray)], _, rfl, rfl, ⟨[.string (⟨#[61, 61]⟩ : ByteArray)], _, rfl, rfl, ⟨[.string (⟨#[97, 98, 99, 100, 101, 102, 103, 104, 105, 106, 107, 108, 109, 110, 111, 112, 113, 114, 115, 116, 117, 118, 119, 120]⟩ : ByteArray)], _, rfl, rfl, ⟨[.string (⟨#[97, 98, 99, 100, 101, 102, 103, 104, 105, 106, 107, 108, 109, 110, 111, 112, 113, 114, 115, 116, 117, 118, 119, 120, 121]⟩ : ByteArray)], _, rfl, rfl, rfl⟩⟩⟩⟩⟩⟩⟩⟩⟩⟩⟩⟩⟩⟩⟩⟩⟩⟩⟩⟩⟩⟩⟩⟩⟩ ?_)
      clear st
      intro b1 m4 w4 hle2 st r7
      have hm := Mem.le_trans hm hle2
      have r5 := r5.mono hle2
      have r6 := r6.mono hle2
      have st := st.front1
      replace hr := bindS hr
      obtain ⟨y2, hx2, hr⟩ := hr
      refine WO_one rfl (One_fn 14 21 #[.pointer (some ⟨bp0, 0, none⟩), .slice (some ⟨b1, 0, none⟩) (List.length ([(⟨#[97]⟩ : ByteArray), (⟨#[98, 57, 95]⟩ : ByteArray), (⟨#[105, 102]⟩ : ByteArray), (⟨#[48]⟩ : ByteArray), (⟨#[48, 48, 55]⟩ : ByteArray), (⟨#[57, 48, 48, 55, 49, 57, 57, 50, 53, 52, 55, 52, 48, 57, 57, 50]⟩ : ByteArray), (⟨#[57, 48, 48, 55, 49, 57, 57, 50, 53, 52, 55, 52, 48, 57, 57, 51]⟩ : ByteArray), (⟨#[57, 57, 57, 57, 57, 57, 57, 57, 57, 57, 57, 57, 57, 57, 57, 57, 57, 57, 57, 57]⟩ : ByteArray), (⟨#[34, 97, 47, 98, 34]⟩ : ByteArray), (⟨#[34, 34]⟩ : ByteArray), (⟨#[34, 32, 120, 34]⟩ : ByteArray), (⟨#[59]⟩ : ByteArray), (⟨#[44]⟩ : ByteArray), (⟨#[40]⟩ : ByteArray), (⟨#[41]⟩ : ByteArray), (⟨#[43]⟩ : ByteArray), (⟨#[45]⟩ : ByteArray), (⟨#[42]⟩ : ByteArray), (⟨#[47]⟩ : ByteArray), (⟨#[37]⟩ : ByteArray), (⟨#[60]⟩ : ByteArray), (⟨#[61]⟩ : ByteArray), (⟨#[61, 61]⟩ : ByteArray), (⟨#[97, 98, 99, 100, 101, 102, 103, 104, 105, 106, 107, 108, 109, 110, 111, 112, 113, 114, 115, 116, 117, 118, 119, 120]⟩ : ByteArray), (⟨#[97, 98, 99, 100, 101, 102, 103, 104, 105, 106, 107, 108, 109, 110, 111, 112, 113, 114, 115, 116, 117, 118, 119, 120, 121]⟩ : ByteArray)])) 25] (by kernel_rfl) rfl ?_)
      refine (testgatemake_Tape_One_ok st r6 r7 hx2).mono ?_
      clear st
      rintro _ w5 ⟨a7, c7, m5, rfl, hle3, st, r8⟩
      refine ⟨_, rfl, ?_⟩
      have hm := Mem.le_trans hm hle3
      have r5 := r5.mono hle3
      have r7 := r7.mono hle3
      have r6 := r6.mono hle3
      refine WO_one rfl (One_buildSlice (d := 15) (t := 30) (e := 9) (len := 1) (parts := #[(0, (.tmp 14))]) cStr (xs := [y2.2]) [.string y2.2] (by kernel_rfl) rfl (fun _ => buildCells_run (by kernel_rfl) _) rfl rfl st ⟨[.string y2.2], _, rfl, rfl, rfl⟩ ?_)
      clear st
      intro b2 m6 w6 hle4 st r9
      have hm := Mem.le_trans hm hle4
      have r5 := r5.mono hle4
      have r7 := r7.mono hle4
      have r8 := r8.mono hle4
      have st := st.front3
      replace hr := bindS hr
      obtain ⟨l1, hx3, hr⟩ := hr
      refine WO_one rfl (One_append (d := 16) (t := 30) (u := 30) (e := 9) (by_ := 16) (x := (.tmp 11)) (y := (.tmp 15)) cStr (by kernel_rfl) rfl (show evL _ _ = some (.slice a5 (List.length s1.1) c5) from (by kernel_rfl)) (show evL _ _ = some (.slice (some ⟨b2, 0, none⟩) (List.length ([y2.2])) 1) from (by kernel_rfl)) st (by kernel_rfl) (.inl (by kernel_rfl)) r5 r9.src hx3 ?_)
      clear st
      intro a8 c8 m7 w7 hle5 st r10
      have hm := Mem.le_trans hm hle5
      have r5 := r5.mono hle5
      have r7 := r7.mono hle5
      have r9 := r9.mono hle5
      have r8 := r8.mono hle5
      refine WO_seg 1 [(3, .slice a8 (List.length l1) c8)] (by kernel_rfl) (by kernel_rfl) ?_
      refine WO_end rfl ?_
      have st := st.front1
      have st := st.tail
      have st := st.front2
      have st := st.tail
      refine X_block ?_
      refine X_then ?_
      refine W_region ?_
      refine WO_seg 3 [(4, .int .i64 (IntKind.wrap .i64 (s1.2.1 - 1)))] (by kernel_rfl) (by kernel_rfl) ?_
      refine WO_end rfl ?_
      obtain rfl := Option.some.inj hr
      have hL := hSu1 _ rfl
      have st := st.front1
      exact X_env _ (by kernel_rfl) (X_round k1 (Nat.lt_succ_self _) ⟨(l1, IntKind.wrap .i64 (s1.2.1 - 1), y2.1.1, y2.1.2), a8, c8, a7, c7, m7, hL, rfl, hm, st, r10, r8⟩)
    · intro hc
      rw [if_neg (not_true hc)] at hr
      refine W_exit ?_
      refine X_then_exit ?_
      obtain rfl := Option.some.inj hr
      have ho := hBu1 _ rfl
      have st := st.front1
      have st := st.front1
      refine X_then_exit ?_
      exact X_env _ (by kernel_rfl) (K0_u1 _ _ ⟨(s1.1, s1.2.2.1, s1.2.2.2), a5, c5, a6, c6, m3, ho, rfl, hm, st, r5, r6⟩)

def lexer_kinds_L2 (N : Nat) (kv1 : Int × ByteArray) (l1 : List (UInt8)) (s2 : Int × (Option (List (Int × Int)))) : Option ((Int × (Option (List (Int × Int)))) ⊕ (((Option (List (Int × Int)))))) :=
  if (decide (s2.1 < (List.length l1 : Int))) = true then ((idx l1 s2.1).bind fun x1 => (msetQ s2.2 (x1.toNat : Int) kv1.1).bind fun mp9 => some (.inl (IntKind.wrap .i64 (s2.1 + 1), mp9))) else (some (.inr s2.2))

def lexer_kinds_L1 (N : Nat) (z1 : Option (Int × ByteArray)) (s1 : (Option (List (Int × Int)))) : Option (((Option (List (Int × Int)))) ⊕ (((Option (List (Int × Int)))))) :=
  (match z1 with | none => some (.inr s1) | some kv1 => (bytesOf kv1.2).bind fun l1 => (loopM (lexer_kinds_L2 N kv1 l1) N (0, s1)).bind fun o2 => some (.inl o2))

def lexer_kinds (N : Nat) : Option (Option (List (Int × Int))) :=
  (msetQ (some [] : Option (List (Int × ByteArray))) 1 (⟨#[97, 98, 99, 100, 101, 102, 103, 104, 105, 106, 107, 108, 109, 110, 111, 112, 113, 114, 115, 116, 117, 118, 119, 120, 121, 122]⟩ : ByteArray)).bind fun mp1 => (msetQ mp1 2 (⟨#[48, 49, 50, 51, 52, 53, 54, 55, 56, 57]⟩ : ByteArray)).bind fun mp2 => (msetQ mp2 3 (⟨#[95]⟩ : ByteArray)).bind fun mp3 => (msetQ mp3 4 (⟨#[46]⟩ : ByteArray)).bind fun mp4 => (msetQ mp4 5 (⟨#[9, 10, 13, 32]⟩ : ByteArray)).bind fun mp5 => (msetQ mp5 6 (⟨#[35]⟩ : ByteArray)).bind fun mp6 => (msetQ mp6 7 (⟨#[34]⟩ : ByteArray)).bind fun mp7 => (msetQ mp7 8 (⟨#[59, 44, 40, 41, 43, 45, 42, 47, 37, 60, 61]⟩ : ByteArray)).bind fun mp8 => (mrange (lexer_kinds_L1 N) (Option.getD mp8 []) (some [] : Option (List (Int × Int)))).bind fun o1 => some o1

set_option maxHeartbeats 4000000 in
set_option maxRecDepth 100000 in
theorem lexer_kinds_ok {N : Nat} {m : Mem} {own : List Piece} {w : World} {r : Option (List (Int × Int))} (st : St m (own) w) (hr : lexer_kinds N = some r) : Calls Go.Proofs.Tryd.prog 49 #[] w fun e w' => ∃ (rq1 : Option Nat) (re1 : Array MapEntry) (rk1 : Nat) (m' : Mem), e = .returned (.map rq1) ∧ m.le m' ∧ St m' (mpiece rq1 re1 rk1 :: own) w' ∧ MapQ (fun n : Int => Value.int .u8 n) (cInt .i64) false m' rq1 re1 rk1 r := by
  unfold lexer_kinds at hr
  have hm := m.le_refl
  refine W_calls Go.Proofs.Tryd.func49 rfl Go.Proofs.Tryd.ntmps49 [] (by kernel_rfl) rfl ?_
  refine W_seq ?_
  refine W_region ?_
  refine WO_seg 1 [] (by kernel_rfl) (by kernel_rfl) ?_
  refine WO_end rfl ?_
  refine X_then ?_
  refine W_seq ?_
  refine W_region ?_
  refine WO_one rfl (One_makeMap (d := 6) (t := 68) (by kernel_rfl) rfl st ?_)
  clear st
  intro b1 w1 st
  refine WO_seg 1 [(1, .map (some b1))] (by kernel_rfl) (by kernel_rfl) ?_
  refine WO_end rfl ?_
  refine X_then ?_
  refine W_seq ?_
  refine W_seq ?_
  refine W_region ?_
  refine WO_one rfl (One_makeMap (d := 7) (t := 104) (by kernel_rfl) rfl st ?_)
  clear st
  intro b2 w2 st
  replace hr := bindS hr
  obtain ⟨mp1, hx1, hr⟩ := hr
  refine WO_one rfl (One_insert (ek := (fun n : Int => Value.int .i64 n)) (c := cStr) (agg := false) (k := 1) (yv := (⟨#[97, 98, 99, 100, 101, 102, 103, 104, 105, 106, 107, 108, 109, 110, 111, 112, 113, 114, 115, 116, 117, 118, 119, 120, 121, 122]⟩ : ByteArray)) (cs := [.string (⟨#[97, 98, 99, 100, 101, 102, 103, 104, 105, 106, 107, 108, 109, 110, 111, 112, 113, 114, 115, 116, 117, 118, 119, 120, 121, 122]⟩ : ByteArray)]) (z := (.string (⟨#[]⟩ : ByteArray))) (v := (.string (⟨#[97, 98, 99, 100, 101, 102, 103, 104, 105, 106, 107, 108, 109, 110, 111, 112, 113, 114, 115, 116, 117, 118, 119, 120, 121, 122]⟩ : ByteArray))) (kt := 3) (et := 9) (t := 104) (x := (.tmp 7)) (y := (.const (.int .i64 1))) (u := (.const (.string (⟨#[97, 98, 99, 100, 101, 102, 103, 104, 105, 106, 107, 108, 109, 110, 111, 112, 113, 114, 115, 116, 117, 118, 119, 120, 121, 122]⟩ : ByteArray)))) (by kernel_rfl) (show evL _ _ = some (.map (some b2)) from (by kernel_rfl)) (show evL _ _ = some (.int .i64 1) from (by kernel_rfl)) (show evL _ _ = some (.string (⟨#[97, 98, 99, 100, 101, 102, 103, 104, 105, 106, 107, 108, 109, 110, 111, 112, 113, 114, 115, 116, 117, 118, 119, 120, 121, 122]⟩ : ByteArray)) from (by kernel_rfl)) (by kernel_rfl) (keyInt (by kernel_rfl)) st (MapQ.new (fun n : Int => Value.int .i64 n) cStr false _ _) rfl rfl hx1 ?_)
  clear st
  intro es1 ck1 w3 st r1
  replace hr := bindS hr
  obtain ⟨mp2, hx2, hr⟩ := hr
  refine WO_one rfl (One_insert (ek := (fun n : Int => Value.int .i64 n)) (c := cStr) (agg := false) (k := 2) (yv := (⟨#[48, 49, 50, 51, 52, 53, 54, 55, 56, 57]⟩ : ByteArray)) (cs := [.string (⟨#[48, 49, 50, 51, 52, 53, 54, 55, 56, 57]⟩ : ByteArray)]) (z := (.string (⟨#[]⟩ : ByteArray))) (v := (.string (⟨#[48, 49, 50, 51, 52, 53, 54, 55, 56, 57]⟩ : ByteArray))) (kt := 3) (et := 9) (t := 104) (x := (.tmp 7)) (y := (.const (.int .i64 2))) (u := (.const (.string (⟨#[48, 49, 50, 51, 52, 53, 54, 55, 56, 57]⟩ : ByteArray)))) (by kernel_rfl) (show evL _ _ = some (.map (some b2)) from (by kernel_rfl)) (show evL _ _ = some (.int .i64 2) from (by kernel_rfl)) (show evL _ _ = some (.string (⟨#[48, 49, 50, 51, 52, 53, 54, 55, 56, 57]⟩ : ByteArray)) from (by kernel_rfl)) (by kernel_rfl) (keyInt (by kernel_rfl)) st r1 rfl rfl hx2 ?_)
  clear st
  intro es2 ck2 w4 st r2
  replace hr := bindS hr
  obtain ⟨mp3, hx3, hr⟩ := hr
  refine WO_one rfl (One_insert (ek := (fun n : Int => Value.int .i64 n)) (c := cStr) (agg := false) (k := 3) (yv := (⟨#[95]⟩ : ByteArray)) (cs := [.string (⟨#[95]⟩ : ByteArray)]) (z := (.string (⟨#[]⟩ : ByteArray))) (v := (.string (⟨#[95]⟩ : ByteArray))) (kt := 3) (et := 9) (t := 104) (x := (.tmp 7)) (y := (.const (.int .i64 3))) (u := (.const (.string (⟨#[95]⟩ : ByteArray)))) (by kernel_rfl) (show evL _ _ = some (.map (some b2)) from (by kernel_rfl)) (show evL _ _ = some (.int .i64 3) from (by kernel_rfl)) (show evL _ _ = some (.string (⟨#[95]⟩ : ByteArray)) from (by kernel_rfl)) (by kernel_rfl) (keyInt (by kernel_rfl)) st r2 rfl rfl hx3 ?_)
  clear st
  intro es3 ck3 w5 st r3
  replace hr := bindS hr
  obtain ⟨mp4, hx4, hr⟩ := hr
  refine WO_one rfl (One_insert (ek := (fun n : Int => Value.int .i64 n)) (c := cStr) (agg := false) (k := 4) (yv := (⟨#[46]⟩ : ByteArray)) (cs := [.string (⟨#[46]⟩ : ByteArray)]) (z := (.string (⟨#[]⟩ : ByteArray))) (v := (.string (⟨#[46]⟩ : ByteArray))) (kt := 3) (et := 9) (t := 104) (x := (.tmp 7)) (y := (.const (.int .i64 4))) (u := (.const (.string (⟨#[46]⟩ : ByteArray)))) (by kernel_rfl) (show evL _ _ = some (.map (some b2)) from (by kernel_rfl)) (show evL _ _ = some (.int .i64 4) from (by kernel_rfl)) (show evL _ _ = some (.string (⟨#[46]⟩ : ByteArray)) from (by kernel_rfl)) (by kernel_rfl) (keyInt (by kernel_rfl)) st r3 rfl rfl hx4 ?_)
  clear st
  intro es4 ck4 w6 st r4
  replace hr := bindS hr
  obtain ⟨mp5, hx5, hr⟩ := hr
  refine WO_one rfl (One_insert (ek := (fun n : Int => Value.int .i64 n)) (c := cStr) (agg := false) (k := 5) (yv := (⟨#[9, 10, 13, 32]⟩ : ByteArray)) (cs := [.string (⟨#[9, 10, 13, 32]⟩ : ByteArray)]) (z := (.string (⟨#[]⟩ : ByteArray))) (v := (.string (⟨#[9, 10, 13, 32]⟩ : ByteArray))) (kt := 3) (et := 9) (t := 104) (x := (.tmp 7)) (y := (.const (.int .i64 5))) (u := (.const (.string (⟨#[9, 10, 13, 32]⟩ : ByteArray)))) (by kernel_rfl) (show evL _ _ = some (.map (some b2)) from (by kernel_rfl)) (show evL _ _ = some (.int .i64 5) from (by kernel_rfl)) (show evL _ _ = some (.string (⟨#[9, 10, 13, 32]⟩ : ByteArray)) from (by kernel_rfl)) (by kernel_rfl) (keyInt (by kernel_rfl)) st r4 rfl rfl hx5 ?_)
  clear st
  intro es5 ck5 w7 st r5
  replace hr := bindS hr
  obtain ⟨mp6, hx6, hr⟩ := hr
  refine WO_one rfl (One_insert (ek := (fun n : Int => Value.int .i64 n)) (c := cStr) (agg := false) (k := 6) (yv := (⟨#[35]⟩ : ByteArray)) (cs := [.string (⟨#[35]⟩ : ByteArray)]) (z := (.string (⟨#[]⟩ : ByteArray))) (v := (.string (⟨#[35]⟩ : ByteArray))) (kt := 3) (et := 9) (t := 104) (x := (.tmp 7)) (y := (.const (.int .i64 6))) (u := (.const (.string (⟨#[35]⟩ : ByteArray)))) (by kernel_rfl) (show evL _ _ = some (.map (some b2)) from (by kernel_rfl)) (show evL _ _ = some (.int .i64 6) from (by kernel_rfl)) (show evL _ _ = some (.string (⟨#[35]⟩ : ByteArray)) from (by kernel_rfl)) (by kernel_rfl) (keyInt (by kernel_rfl)) st r5 rfl rfl hx6 ?_)
  clear st
  intro es6 ck6 w8 st r6
  replace hr := bindS hr
  obtain ⟨mp7, hx7, hr⟩ := hr
  refine WO_one rfl (One_insert (ek := (fun n : Int => Value.int .i64 n)) (c := cStr) (agg := false) (k := 7) (yv := (⟨#[34]⟩ : ByteArray)) (cs := [.string (⟨#[34]⟩ : ByteArray)]) (z := (.string (⟨#[]⟩ : ByteArray))) (v := (.string (⟨#[34]⟩ : ByteArray))) (kt := 3) (et := 9) (t := 104) (x := (.tmp 7)) (y := (.const (.int .i64 7))) (u := (.const (.string (⟨#[34]⟩ : ByteArray)))) (by kernel_rfl) (show evL _ _ = some (.map (some b2)) from (by kernel_rfl)) (show evL _ _ = some (.int .i64 7) from (by kernel_rfl)) (show evL _ _ = some (.string (⟨#[34]⟩ : ByteArray)) from (by kernel_rfl)) (by kernel_rfl) (keyInt (by kernel_rfl)) st r6 rfl rfl hx7 ?_)
  clear st
  intro es7 ck7 w9 st r7
  replace hr := bindS hr
  obtain ⟨mp8, hx8, hr⟩ := hr
  refine WO_one rfl (One_insert (ek := (fun n : Int => Value.int .i64 n)) (c := cStr) (agg := false) (k := 8) (yv := (⟨#[59, 44, 40, 41, 43, 45, 42, 47, 37, 60, 61]⟩ : ByteArray)) (cs := [.string (⟨#[59, 44, 40, 41, 43, 45, 42, 47, 37, 60, 61]⟩ : ByteArray)]) (z := (.string (⟨#[]⟩ : ByteArray))) (v := (.string (⟨#[59, 44, 40, 41, 43, 45, 42, 47, 37, 60, 61]⟩ : ByteArray))) (kt := 3) (et := 9) (t := 104) (x := (.tmp 7)) (y := (.const (.int .i64 8))) (u := (.const (.string (⟨#[59, 44, 40, 41, 43, 45, 42, 47, 37, 60, 61]⟩ : ByteArray)))) (by kernel_rfl) (show evL _ _ = some (.map (some b2)) from (by kernel_rfl)) (show evL _ _ = some (.int .i64 8) from (by kernel_rfl)) (show evL _ _ = some (.string (⟨#[59, 44, 40, 41, 43, 45, 42, 47, 37, 60, 61]⟩ : ByteArray)) from (by kernel_rfl)) (by kernel_rfl) (keyInt (by kernel_rfl)) st r7 rfl rfl hx8 ?_)
  clear st
  intro es8 ck8 w10 st r8
  refine WO_seg 1 [(8, .map (some b2))] (by kernel_rfl) (by kernel_rfl) ?_
  refine WO_one rfl (One_range (ek := (fun n : Int => Value.int .i64 n)) (c := cStr) (agg := false) (d := 9) (t := 104) (kt := 3) (et := 9) (x := (.tmp 8)) (by kernel_rfl) rfl (show evL _ _ = some (.map (some b2)) from (by kernel_rfl)) (by kernel_rfl) st r8 ?_)
  clear st
  intro b3 w11 st hi1
  refine WO_end rfl ?_
  refine X_then ?_
  refine W_block ?_
  replace hr := bindS hr
  obtain ⟨out1, hr, hrKu1⟩ := hr
  refine W_cut (.exit 0) (fun L' w' => ∃ (o1 : (Option (List (Int × Int)))) (es9 : Array MapEntry) (ck9 : Nat) (sn1 : Array Nat) (rem1 : List (Int × ByteArray)) (m1 : Mem), o1 = out1 ∧ L' = [(1, .map (some b1))] ∧ m.le m1 ∧ St m1 (mpiece (some b2) es8 ck8 :: mpiece (some b1) es9 ck9 :: itpiece b3 (some b2) ck8 sn1 :: own) w' ∧ MapQ (fun n : Int => Value.int .i64 n) cStr false m1 (some b2) es8 ck8 mp8 ∧ MapQ (fun n : Int => Value.int .u8 n) (cInt .i64) false m1 (some b1) es9 ck9 o1 ∧ ItR (fun n : Int => Value.int .i64 n) cStr false m1 es8 sn1 rem1) ?_ ?_
  · clear hr st
    rintro _ w12 ⟨o1, es9, ck9, sn1, rem1, m1, rfl, rfl, hm, st, r8, r9, hi2⟩
    have hr := hrKu1
    clear hrKu1
    refine X_block_eq ?_
    refine X_then ?_
    refine W_seq ?_
    refine W_region ?_
    refine WO_seg 2 [(0, .map (some b1))] (by kernel_rfl) (by kernel_rfl) ?_
    refine WO_end rfl ?_
    have st := st.front2
    have st := st.tail
    refine X_then ?_
    refine W_ret ?_
    obtain rfl := Option.some.inj hr
    refine X_ret [.tmp 0] [.map (some b1)] rfl (ResAll.cons (ResAt.tmp (by kernel_rfl)) ResAll.nil) ?_
    have st := st.tail
    exact ⟨(some b1), es9, ck9, m1, rfl, hm, st, r9⟩
  intro K0_u1
  clear hrKu1
  have st := st.front2
  have st := st.front2
  refine W_env _ (by kernel_rfl) (W_loop (fun k1 L' w' => ∃ (s1 : (Option (List (Int × Int)))) (es10 : Array MapEntry) (ck10 : Nat) (sn2 : Array Nat) (rem2 : List (Int × ByteArray)) (m2 : Mem), LoopE (lexer_kinds_L1 N) rem2 s1 out1 k1 ∧ L' = [(1, .map (some b1)), (9, .pointer (some ⟨b3, 0, none⟩))] ∧ m.le m2 ∧ St m2 (mpiece (some b2) es8 ck8 :: mpiece (some b1) es10 ck10 :: itpiece b3 (some b2) ck8 sn2 :: own) w' ∧ MapQ (fun n : Int => Value.int .i64 n) cStr false m2 (some b2) es8 ck8 mp8 ∧ MapQ (fun n : Int => Value.int .u8 n) (cInt .i64) false m2 (some b1) es10 ck10 s1 ∧ ItR (fun n : Int => Value.int .i64 n) cStr false m2 es8 sn2 rem2) (List.length (Option.getD mp8 []) + 1) ⟨(some [] : Option (List (Int × Int))), #[], 0, #[], (Option.getD mp8 []), m, LoopE.start hr, rfl, hm, st, r8, (MapQ.new (fun n : Int => Value.int .u8 n) (cInt .i64) false _ _), hi1⟩ ?_)
  clear st hr
  rintro k1 _ w13 ⟨s1, es10, ck10, sn2, rem2, m2, hL, rfl, hm, st, r8, r10, hi3⟩
  rcases k1 with _ | k1
  · exact LoopE.zero hL
  · refine W_seq ?_
    refine W_region ?_
    have st := st.front2
    refine WO_one rfl (One_next (ek := (fun n : Int => Value.int .i64 n)) (c := cStr) (agg := false) (d := 10) (x := (.tmp 9)) (by kernel_rfl) rfl (show evL _ _ = some (.pointer (some ⟨b3, 0, none⟩)) from (by kernel_rfl)) st r8 hi3 ?_ ?_)
    · intro hx9 w14 st
      obtain ⟨qu1, hr, hSu1, hBu1⟩ := hL.nil hx9
      clear hL
      unfold lexer_kinds_L1 at hr
      dsimp only at hr
      refine WO_seg 1 [(11, .bool false)] (by kernel_rfl) (by kernel_rfl) ?_
      refine WO_end rfl ?_
      refine X_then ?_
      refine W_seq ?_
      refine W_cond false (by kernel_rfl) (fun h => Bool.noConfusion h) ?_
      intro _
      refine W_exit ?_
      refine X_then_exit ?_
      obtain rfl := Option.some.inj hr
      have ho := hBu1 _ rfl
      have st := st.front2
      have st := st.front2
      refine X_then_exit ?_
      exact X_env _ (by kernel_rfl) (K0_u1 _ _ ⟨s1, es10, ck10, sn2, rem2, m2, ho, rfl, hm, st, r8, r10, hi3⟩)
    · rintro kv1 rem3 sn3 cs1 w15 hx10 rfl st hi4 he1
      obtain ⟨qu1, hr, hSu1, hBu1⟩ := hL.cons hx10
      clear hL
      unfold lexer_kinds_L1 at hr
      dsimp only at hr
      refine WO_seg 1 [(11, .bool true)] (by kernel_rfl) (by kernel_rfl) ?_
      refine WO_end rfl ?_
      refine X_then ?_
      refine W_seq ?_
      refine W_cond true (by kernel_rfl) ?_ (fun h => Bool.noConfusion h)
      intro _
      refine W_skip ?_
      refine X_then ?_
      refine W_block ?_
      refine W_seq ?_
      refine W_region ?_
      have st := st.front1
      have st := st.front1
      refine WO_one rfl (One_entry (ek := (fun n : Int => Value.int .i64 n)) (c := cStr) (agg := false) (d := 12) (x := (.tmp 9)) (K := .int .i64 kv1.1) (V := .string kv1.2) (by kernel_rfl) rfl (show evL _ _ = some (.pointer (some ⟨b3, 0, none⟩)) from (by kernel_rfl)) st r8 he1 ?_)
      refine WO_seg 4 [(2, .int .i64 kv1.1), (3, .string kv1.2)] (by kernel_rfl) (by kernel_rfl) ?_
      refine WO_end rfl ?_
      refine X_then ?_
      refine W_seq ?_
      refine W_region ?_
      refine WO_seg 1 [(15, .string kv1.2)] (by kernel_rfl) (by kernel_rfl) ?_
      replace hr := bindS hr
      obtain ⟨l1, hx11, hr⟩ := hr
      refine WO_one rfl (One_strBytes (d := 16) (t1 := 9) (t2 := 43) (e := 5) (x := (.tmp 15)) (by kernel_rfl) rfl (show evL _ _ = some (.string kv1.2) from (by kernel_rfl)) (by kernel_rfl) (by kernel_rfl) st hx11 ?_)
      clear st
      intro b4 c1 m3 w16 hle1 st r11
      have hm := Mem.le_trans hm hle1
      have hi4 := hi4.mono hle1
      have r8 := r8.mono hle1
      have r10 := r10.mono hle1
      refine WO_seg 2 [(17, .int .i64 (List.length l1 : Int)), (18, .int .i64 0)] (by kernel_rfl) (by kernel_rfl) ?_
      refine WO_end rfl ?_
      refine X_then ?_
      refine W_block ?_
      replace hr := bindS hr
      obtain ⟨out2, hr, hrKu2⟩ := hr
      refine W_cut (.exit 2) (fun L' w' => ∃ (o2 : (Option (List (Int × Int)))) (es11 : Array MapEntry) (ck11 : Nat) (m4 : Mem), o2 = out2 ∧ L' = [(1, .map (some b1)), (9, .pointer (some ⟨b3, 0, none⟩))] ∧ m.le m4 ∧ St m4 (mpiece (some b2) es8 ck8 :: mpiece (some b1) es11 ck11 :: itpiece b3 (some b2) ck8 sn3 :: own) w' ∧ MapQ (fun n : Int => Value.int .i64 n) cStr false m4 (some b2) es8 ck8 mp8 ∧ MapQ (fun n : Int => Value.int .u8 n) (cInt .i64) false m4 (some b1) es11 ck11 o2 ∧ ItR (fun n : Int => Value.int .i64 n) cStr false m4 es8 sn3 rem3) ?_ ?_
      · clear hr st
        rintro _ w17 ⟨o2, es11, ck11, m4, rfl, rfl, hm, st, r8, r12, hi4⟩
        have hr := hrKu2
        clear hrKu2
        refine X_block_eq ?_
        refine X_block ?_
        obtain rfl := Option.some.inj hr
        have hL := hSu1 _ rfl
        have st := st.front2
        have st := st.front2
        have st := st.front2
        exact X_env _ (by kernel_rfl) (X_round k1 (Nat.lt_succ_self _) ⟨o2, es11, ck11, sn3, rem3, m4, hL, rfl, hm, st, r8, r12, hi4⟩)
      intro K2_u2
      clear hrKu2
      have st := st.front2
      have st := st.front2
      refine W_env _ (by kernel_rfl) (W_loop (fun k2 L' w' => ∃ (s2 : Int × (Option (List (Int × Int)))) (es12 : Array MapEntry) (ck12 : Nat) (m5 : Mem), loopM (lexer_kinds_L2 N kv1 l1) k2 s2 = some out2 ∧ L' = [(1, .map (some b1)), (2, .int .i64 kv1.1), (9, .pointer (some ⟨b3, 0, none⟩)), (16, .slice (some ⟨b4, 0, none⟩) (List.length l1) c1), (17, .int .i64 (List.length l1 : Int)), (18, .int .i64 s2.1)] ∧ m.le m5 ∧ St m5 (mpiece (some b2) es8 ck8 :: mpiece (some b1) es12 ck12 :: itpiece b3 (some b2) ck8 sn3 :: own) w' ∧ RepS cU8 m5 (some ⟨b4, 0, none⟩) c1 l1 ∧ MapQ (fun n : Int => Value.int .i64 n) cStr false m5 (some b2) es8 ck8 mp8 ∧ MapQ (fun n : Int => Value.int .u8 n) (cInt .i64) false m5 (some b1) es12 ck12 s2.2 ∧ ItR (fun n : Int => Value.int .i64 n) cStr false m5 es8 sn3 rem3) N ⟨(0, s1), es10, ck10, m3, hr, rfl, hm, st, r11, r8, r10, hi4⟩ ?_)
      clear st hr
      rintro k2 _ w18 ⟨s2, es12, ck12, m5, hL, rfl, hm, st, r11, r8, r13, hi4⟩
      rcases k2 with _ | k2
      · exact loopM_zero hL
      · obtain ⟨qu2, hr, hSu2, hBu2⟩ := loopM_succ hL
        clear hL
        unfold lexer_kinds_L2 at hr
        refine W_seq ?_
        refine W_region ?_
        refine WO_seg 1 [(19, .bool (decide (s2.1 < (List.length l1 : Int))))] (by kernel_rfl) (by kernel_rfl) ?_
        refine WO_end rfl ?_
        refine X_then ?_
        refine W_seq ?_
        refine W_cond (decide (s2.1 < (List.length l1 : Int))) (by kernel_rfl) ?_ ?_
        · intro hc
          rw [if_pos hc] at hr
          refine W_skip ?_
          refine X_then ?_
          refine W_seq ?_
          refine W_block ?_
          refine W_seq ?_
          refine W_region ?_
          replace hr := bindS hr
          obtain ⟨x1, hx12, hr⟩ := hr
          refine WO_one rfl (One_index (d := 20) (t := 43) (e := 5) (x := (.tmp 16)) (y := (.tmp 18)) cU8 (by kernel_rfl) rfl (show evL _ _ = some (.slice (some ⟨b4, 0, none⟩) (List.length l1) c1) from (by kernel_rfl)) (show evL _ _ = some (.int .i64 s2.1) from (by kernel_rfl)) (by kernel_rfl) r11 hx12 ?_)
          rintro b5 f1 cs2 rfl hq1
          refine WO_one rfl (One_load_row (d := 21) (t := 5) (x := (.tmp 20)) (.int .u8 (x1.toNat : Int)) (by kernel_rfl) rfl (show evL _ _ = some (.pointer (some ⟨b5, f1, none⟩)) from (by kernel_rfl)) st hq1 (by kernel_rfl) ?_)
          refine WO_seg 1 [(5, .int .u8 (x1.toNat : Int))] (by kernel_rfl) (by kernel_rfl) ?_
          refine WO_end rfl ?_
          refine X_then ?_
          refine W_region ?_
          refine WO_seg 3 [(22, .map (some b1)), (23, .int .u8 (x1.toNat : Int)), (24, .int .i64 kv1.1)] (by kernel_rfl) (by kernel_rfl) ?_
          have st := st.front1
          replace hr := bindS hr
          obtain ⟨mp9, hx13, hr⟩ := hr
          refine WO_one rfl (One_mapUpdate (ek := (fun n : Int => Value.int .u8 n)) (c := (cInt .i64)) (agg := false) (k := (x1.toNat : Int)) (yv := kv1.1) (cs := [.int .i64 kv1.1]) (z := (.int .i64 0)) (v := (.int .i64 kv1.1)) (kt := 5) (et := 3) (t := 68) (x := (.tmp 22)) (y := (.tmp 23)) (u := (.tmp 24)) (by kernel_rfl) (show evL _ _ = some (.map (some b1)) from (by kernel_rfl)) (show evL _ _ = some (.int .u8 (x1.toNat : Int)) from (by kernel_rfl)) (show evL _ _ = some (.int .i64 kv1.1) from (by kernel_rfl)) (by kernel_rfl) (keyInt (by kernel_rfl)) st r13 rfl rfl hx13 ?_)
          clear st
          intro es13 ck13 w19 st r14
          refine WO_end rfl ?_
          refine X_block ?_
          refine X_then ?_
          refine W_region ?_
          refine WO_seg 2 [(18, .int .i64 (IntKind.wrap .i64 (s2.1 + 1)))] (by kernel_rfl) (by kernel_rfl) ?_
          refine WO_end rfl ?_
          obtain rfl := Option.some.inj hr
          have hL := hSu2 _ rfl
          have st := st.front2
          have st := st.front1
          have st := st.front2
          exact X_env _ (by kernel_rfl) (X_round k2 (Nat.lt_succ_self _) ⟨(IntKind.wrap .i64 (s2.1 + 1), mp9), es13, ck13, m5, hL, rfl, hm, st, r11, r8, r14, hi4⟩)
        · intro hc
          rw [if_neg (not_true hc)] at hr
          refine W_exit ?_
          refine X_then_exit ?_
          obtain rfl := Option.some.inj hr
          have ho := hBu2 _ rfl
          have st := st.front2
          have st := st.front2
          have st := st.front2
          refine X_then_exit ?_
          exact X_env _ (by kernel_rfl) (K2_u2 _ _ ⟨s2.2, es12, ck12, m5, ho, rfl, hm, st, r8, r13, hi4⟩)

def lexer_span_L2 (N : Nat) (p0 : ByteArray) (p2 : Option (List (Int × Int))) (p3 : List Int) (s1 : Int) (s2 : Bool × Int) : Option ((Bool × Int) ⊕ ((Bool))) :=
  if (decide (s2.2 < (List.length p3 : Int))) = true then ((idx p3 s2.2).bind fun x1 => (if s2.1 = true then (some true) else ((idxB p0 s1).bind fun x2 => some (((mgetQ p2 (x2.toNat : Int)).getD 0) == x1)) : Option (Bool)).bind fun o3 => some (.inl (o3, IntKind.wrap .i64 (s2.2 + 1)))) else (some (.inr s2.1))

def lexer_span_L1 (N : Nat) (p0 : ByteArray) (p2 : Option (List (Int × Int))) (p3 : List Int) (s1 : Int) : Option ((Int) ⊕ ((Int))) :=
  if (decide (s1 < (ByteArray.size p0 : Int))) = true then ((loopM (lexer_span_L2 N p0 p2 p3 s1) N (false, 0)).bind fun o2 => if (!o2) = true then (some (.inr s1)) else (some (.inl (IntKind.wrap .i64 (s1 + 1))))) else (some (.inr s1))

def lexer_span (N : Nat) (p0 : ByteArray) (p1 : Int) (p2 : Option (List (Int × Int))) (p3 : List Int) : Option (Int) :=
  (loopM (lexer_span_L1 N p0 p2 p3) N p1).bind fun o1 => some o1

set_option maxHeartbeats 4000000 in
set_option maxRecDepth 100000 in
theorem lexer_span_ok {N : Nat} {m : Mem} {own : List Piece} {w : World} {p0 : ByteArray} {p1 : Int} {p2 : Option (List (Int × Int))} {p3 : List Int} {q1 : Option Nat} {es1 : Array MapEntry} {ck1 : Nat} {a1 : Option Addr} {c1 : Nat} {r : Int} (st : St m (mpiece q1 es1 ck1 :: own) w) (r1 : MapQ (fun n : Int => Value.int .u8 n) (cInt .i64) false m q1 es1 ck1 p2) (r2 : RepS (cInt .i64) m a1 c1 p3) (hr : lexer_span N p0 p1 p2 p3 = some r) : Calls Go.Proofs.Tryd.prog 50 #[.string p0, .int .i64 p1, .map q1, .slice a1 (List.length p3) c1] w fun e w' => ∃ (m' : Mem), e = .returned (.int .i64 r) ∧ m.le m' ∧ St m' (mpiece q1 es1 ck1 :: own) w' := by
  unfold lexer_span at hr
  have hm := m.le_refl
  refine W_calls Go.Proofs.Tryd.func50 rfl Go.Proofs.Tryd.ntmps50 [(0, .string p0), (1, .int .i64 p1), (2, .map q1), (3, .slice a1 (List.length p3) c1)] (by kernel_rfl) rfl ?_
  refine W_seq ?_
  refine W_region ?_
  refine WO_seg 1 [] (by kernel_rfl) (by kernel_rfl) ?_
  refine WO_end rfl ?_
  refine X_then ?_
  refine W_seq ?_
  refine W_block ?_
  replace hr := bindS hr
  obtain ⟨out1, hr, hrKu1⟩ := hr
  refine W_cut (.exit 0) (fun L' w' => ∃ (o1 : Int) (m1 : Mem), o1 = out1 ∧ L' = [(1, .int .i64 o1)] ∧ m.le m1 ∧ St m1 (mpiece q1 es1 ck1 :: own) w' ∧ MapQ (fun n : Int => Value.int .u8 n) (cInt .i64) false m1 q1 es1 ck1 p2) ?_ ?_
  · clear hr st
    rintro _ w1 ⟨o1, m1, rfl, rfl, hm, st, r1⟩
    have hr := hrKu1
    clear hrKu1
    refine X_block_eq ?_
    refine X_then ?_
    refine W_seq ?_
    refine W_region ?_
    refine WO_seg 2 [(8, .int .i64 o1)] (by kernel_rfl) (by kernel_rfl) ?_
    refine WO_end rfl ?_
    refine X_then ?_
    refine W_ret ?_
    obtain rfl := Option.some.inj hr
    refine X_ret [.tmp 8] [.int .i64 o1] rfl (ResAll.cons (ResAt.tmp (by kernel_rfl)) ResAll.nil) ?_
    exact ⟨m1, rfl, hm, st⟩
  intro K0_u1
  clear hrKu1
  refine W_env _ (by kernel_rfl) (W_loop (fun k1 L' w' => ∃ (s1 : Int) (m2 : Mem), loopM (lexer_span_L1 N p0 p2 p3) k1 s1 = some out1 ∧ L' = [(0, .string p0), (1, .int .i64 s1), (2, .map q1), (3, .slice a1 (List.length p3) c1)] ∧ m.le m2 ∧ St m2 (mpiece q1 es1 ck1 :: own) w' ∧ RepS (cInt .i64) m2 a1 c1 p3 ∧ MapQ (fun n : Int => Value.int .u8 n) (cInt .i64) false m2 q1 es1 ck1 p2) N ⟨p1, m, hr, rfl, hm, st, r2, r1⟩ ?_)
  clear st hr
  rintro k1 _ w2 ⟨s1, m2, hL, rfl, hm, st, r2, r1⟩
  rcases k1 with _ | k1
  · exact loopM_zero hL
  · obtain ⟨qu1, hr, hSu1, hBu1⟩ := loopM_succ hL
    clear hL
    unfold lexer_span_L1 at hr
    refine W_seq ?_
    refine W_seq ?_
    refine W_region ?_
    refine WO_seg 4 [(15, .bool (decide (s1 < (ByteArray.size p0 : Int))))] (by kernel_rfl) (by kernel_rfl) ?_
    refine WO_end rfl ?_
    refine X_then ?_
    refine W_cond (decide (s1 < (ByteArray.size p0 : Int))) (by kernel_rfl) ?_ ?_
    · intro hc
      rw [if_pos hc] at hr
      refine W_skip ?_
      refine X_then ?_
      refine W_block ?_
      refine W_seq ?_
      refine W_region ?_
      refine WO_seg 1 [(9, .bool false)] (by kernel_rfl) (by kernel_rfl) ?_
      refine WO_end rfl ?_
      refine X_then ?_
      refine W_seq ?_
      refine W_seq ?_
      refine W_region ?_
      refine WO_seg 3 [(16, .slice a1 (List.length p3) c1), (17, .int .i64 (List.length p3 : Int)), (18, .int .i64 0)] (by kernel_rfl) (by kernel_rfl) ?_
      refine WO_end rfl ?_
      refine X_then ?_
      refine W_block ?_
      replace hr := bindS hr
      obtain ⟨out2, hr, hrKu2⟩ := hr
      refine W_cut (.exit 2) (fun L' w' => ∃ (o2 : Bool) (m3 : Mem), o2 = out2 ∧ L' = [(0, .string p0), (1, .int .i64 s1), (2, .map q1), (3, .slice a1 (List.length p3) c1), (9, .bool o2)] ∧ m.le m3 ∧ St m3 (mpiece q1 es1 ck1 :: own) w' ∧ RepS (cInt .i64) m3 a1 c1 p3 ∧ MapQ (fun n : Int => Value.int .u8 n) (cInt .i64) false m3 q1 es1 ck1 p2) ?_ ?_
      · clear hr st
        rintro _ w3 ⟨o2, m3, rfl, rfl, hm, st, r2, r1⟩
        have hr := hrKu2
        clear hrKu2
        refine X_block_eq ?_
        refine X_then ?_
        refine W_seq ?_
        refine W_seq ?_
        refine W_region ?_
        refine WO_seg 2 [(34, .bool (!o2))] (by kernel_rfl) (by kernel_rfl) ?_
        refine WO_end rfl ?_
        refine X_then ?_
        refine W_cond (!o2) (by kernel_rfl) ?_ ?_
        · intro hc
          rw [if_pos hc] at hr
          refine W_exit ?_
          refine X_then_exit ?_
          refine X_block_ne rfl ?_
          obtain rfl := Option.some.inj hr
          have ho := hBu1 _ rfl
          refine X_then_exit ?_
          exact X_env _ (by kernel_rfl) (K0_u1 _ _ ⟨s1, m3, ho, rfl, hm, st, r1⟩)
        · intro hc
          rw [if_neg (not_true hc)] at hr
          refine W_skip ?_
          refine X_then ?_
          refine W_region ?_
          refine WO_seg 3 [(1, .int .i64 (IntKind.wrap .i64 (s1 + 1)))] (by kernel_rfl) (by kernel_rfl) ?_
          refine WO_end rfl ?_
          refine X_block ?_
          obtain rfl := Option.some.inj hr
          have hL := hSu1 _ rfl
          exact X_env _ (by kernel_rfl) (X_round k1 (Nat.lt_succ_self _) ⟨IntKind.wrap .i64 (s1 + 1), m3, hL, rfl, hm, st, r2, r1⟩)
      intro K2_u2
      clear hrKu2
      refine W_env _ (by kernel_rfl) (W_loop (fun k2 L' w' => ∃ (s2 : Bool × Int) (m4 : Mem), loopM (lexer_span_L2 N p0 p2 p3 s1) k2 s2 = some out2 ∧ L' = [(0, .string p0), (1, .int .i64 s1), (2, .map q1), (3, .slice a1 (List.length p3) c1), (9, .bool s2.1), (16, .slice a1 (List.length p3) c1), (17, .int .i64 (List.length p3 : Int)), (18, .int .i64 s2.2)] ∧ m.le m4 ∧ St m4 (mpiece q1 es1 ck1 :: own) w' ∧ RepS (cInt .i64) m4 a1 c1 p3 ∧ MapQ (fun n : Int => Value.int .u8 n) (cInt .i64) false m4 q1 es1 ck1 p2) N ⟨(false, 0), m2, hr, rfl, hm, st, r2, r1⟩ ?_)
      clear st hr
      rintro k2 _ w4 ⟨s2, m4, hL, rfl, hm, st, r2, r1⟩
      rcases k2 with _ | k2
      · exact loopM_zero hL
      · obtain ⟨qu2, hr, hSu2, hBu2⟩ := loopM_succ hL
        clear hL
        unfold lexer_span_L2 at hr
        refine W_seq ?_
        refine W_region ?_
        refine WO_seg 1 [(19, .bool (decide (s2.2 < (List.length p3 : Int))))] (by kernel_rfl) (by kernel_rfl) ?_
        refine WO_end rfl ?_
        refine X_then ?_
        refine W_seq ?_
        refine W_cond (decide (s2.2 < (List.length p3 : Int))) (by kernel_rfl) ?_ ?_
        · intro hc
          rw [if_pos hc] at hr
          refine W_skip ?_
          refine X_then ?_
          refine W_seq ?_
          refine W_block ?_
          refine W_seq ?_
          refine W_region ?_
          replace hr := bindS hr
          obtain ⟨x1, hx1, hr⟩ := hr
          refine WO_one rfl (One_index (d := 20) (t := 26) (e := 3) (x := (.tmp 16)) (y := (.tmp 18)) (cInt .i64) (by kernel_rfl) rfl (show evL _ _ = some (.slice a1 (List.length p3) c1) from (by kernel_rfl)) (show evL _ _ = some (.int .i64 s2.2) from (by kernel_rfl)) (by kernel_rfl) r2 hx1 ?_)
          rintro b1 f1 cs1 rfl hq1
          refine WO_one rfl (One_load_row (d := 21) (t := 3) (x := (.tmp 20)) (.int .i64 x1) (by kernel_rfl) rfl (show evL _ _ = some (.pointer (some ⟨b1, f1, none⟩)) from (by kernel_rfl)) st hq1 (by kernel_rfl) ?_)
          refine WO_seg 1 [(11, .int .i64 x1)] (by kernel_rfl) (by kernel_rfl) ?_
          refine WO_end rfl ?_
          refine X_then ?_
          refine W_region ?_
          replace hr := bindS hr
          obtain ⟨o3, hr, hrK⟩ := hr
          refine WO_cut (j := 11) (fun L' w' => ∃ (m5 : Mem), L' = [(0, .string p0), (1, .int .i64 s1), (2, .map q1), (3, .slice a1 (List.length p3) c1), (9, .bool o3), (16, .slice a1 (List.length p3) c1), (17, .int .i64 (List.length p3 : Int)), (18, .int .i64 s2.2)] ∧ m.le m5 ∧ St m5 (mpiece q1 es1 ck1 :: own) w' ∧ RepS (cInt .i64) m5 a1 c1 p3 ∧ MapQ (fun n : Int => Value.int .u8 n) (cInt .i64) false m5 q1 es1 ck1 p2) ?_ ?_
          · clear hr st
            have hr := hrK
            clear hrK
            rintro _ w5 ⟨m5, rfl, hm, st, r2, r1⟩
            refine WO_end rfl ?_
            refine X_block ?_
            refine X_then ?_
            refine W_region ?_
            refine WO_seg 2 [(18, .int .i64 (IntKind.wrap .i64 (s2.2 + 1)))] (by kernel_rfl) (by kernel_rfl) ?_
            refine WO_end rfl ?_
            obtain rfl := Option.some.inj hr
            have hL := hSu2 _ rfl
            exact X_env _ (by kernel_rfl) (X_round k2 (Nat.lt_succ_self _) ⟨(o3, IntKind.wrap .i64 (s2.2 + 1)), m5, hL, rfl, hm, st, r2, r1⟩)
          · intro K
            clear hrK
            refine WO_seg 2 [(23, .bool s2.1)] (by kernel_rfl) (by kernel_rfl) ?_
            rcases bcases s2.1 with hc | hc
            · rw [if_pos hc] at hr
              refine WO_fact (t := 23) (b := true) s2.1 (by kernel_rfl) hc ?_
              refine WO_seg 9 [(9, .bool true)] (by kernel_rfl) (by kernel_rfl) ?_
              obtain rfl := Option.some.inj hr
              exact WO_env _ (by kernel_rfl) (K _ _ ⟨m4, rfl, hm, st, r2, r1⟩)
            · rw [if_neg (not_true hc)] at hr
              refine WO_fact (t := 23) (b := false) s2.1 (by kernel_rfl) hc ?_
              refine WO_seg 3 [(24, .map q1), (25, .string p0), (26, .int .i64 s1)] (by kernel_rfl) (by kernel_rfl) ?_
              replace hr := bindS hr
              obtain ⟨x2, hx2, hr⟩ := hr
              refine WO_one rfl (One_strIndex (d := 27) (t := 9) (x := (.tmp 25)) (y := (.tmp 26)) (by kernel_rfl) rfl (show evL _ _ = some (.string p0) from (by kernel_rfl)) (show evL _ _ = some (.int .i64 s1) from (by kernel_rfl)) (by kernel_rfl) hx2 ?_)
              refine WO_one rfl (One_lookup (ek := (fun n : Int => Value.int .u8 n)) (c := (cInt .i64)) (agg := false) (k := (x2.toNat : Int)) (zx := 0) (zcs := [.int .i64 0]) (z := (.int .i64 0)) (kt := 5) (et := 3) (d := 28) (t := 68) (x := (.tmp 24)) (y := (.tmp 27)) (ok := false) (by kernel_rfl) rfl (show evL _ _ = some (.map q1) from (by kernel_rfl)) (show evL _ _ = some (.int .u8 (x2.toNat : Int)) from (by kernel_rfl)) (by kernel_rfl) (keyInt (by kernel_rfl)) st.head r1 rfl rfl ?_)
              rintro cs2 rfl
              refine WO_seg 4 [(9, .bool (((mgetQ p2 (x2.toNat : Int)).getD 0) == x1))] (by kernel_rfl) (by kernel_rfl) ?_
              obtain rfl := Option.some.inj hr
              exact WO_env _ (by kernel_rfl) (K _ _ ⟨m4, rfl, hm, st, r2, r1⟩)
        · intro hc
          rw [if_neg (not_true hc)] at hr
          refine W_exit ?_
          refine X_then_exit ?_
          obtain rfl := Option.some.inj hr
          have ho := hBu2 _ rfl
          refine X_then_exit ?_
          exact X_env _ (by kernel_rfl) (K2_u2 _ _ ⟨s2.1, m4, ho, rfl, hm, st, r2, r1⟩)
    · intro hc
      rw [if_neg (not_true hc)] at hr
      refine W_exit ?_
      refine X_then_exit ?_
      obtain rfl := Option.some.inj hr
      have ho := hBu1 _ rfl
      refine X_then_exit ?_
      exact X_env _ (by kernel_rfl) (K0_u1 _ _ ⟨s1, m2, ho, rfl, hm, st, r1⟩)

def internal_stringslite_IndexByte (N : Nat) (p0 : ByteArray) (p1 : Int) : Option (Int) :=
  some (ixB p0 p1)

set_option maxHeartbeats 4000000 in
set_option maxRecDepth 100000 in
theorem internal_stringslite_IndexByte_ok {N : Nat} {m : Mem} {own : List Piece} {w : World} {p0 : ByteArray} {p1 : Int} {r : Int} (st : St m (own) w) (hr : internal_stringslite_IndexByte N p0 p1 = some r) : Calls Go.Proofs.Tryd.prog 85 #[.string p0, .int .u8 p1] w fun e w' => ∃ (m' : Mem), e = .returned (.int .i64 r) ∧ m.le m' ∧ St m' (own) w' := by
  unfold internal_stringslite_IndexByte at hr
  have hm := m.le_refl
  refine W_calls Go.Proofs.Tryd.func85 rfl Go.Proofs.Tryd.ntmps85 [(0, .string p0), (1, .int .u8 p1)] (by kernel_rfl) rfl ?_
  refine W_seq ?_
  refine W_region ?_
  refine WO_seg 1 [] (by kernel_rfl) (by kernel_rfl) ?_
  refine WO_end rfl ?_
  refine X_then ?_
  refine W_seq ?_
  refine W_region ?_
  refine WO_seg 2 [(5, .string p0), (6, .int .u8 p1)] (by kernel_rfl) (by kernel_rfl) ?_
  refine WO_one rfl (One_indexByte (d := 7) (f := 105) (x := (.tmp 5)) (y := (.tmp 6)) (ts := #[9, 5]) (by kernel_rfl) rfl (show evL _ _ = some (.string p0) from (by kernel_rfl)) (show evL _ _ = some (.int .u8 p1) from (by kernel_rfl)) Go.Proofs.Tryd.func105 (by kernel_rfl) (by kernel_rfl) ?_)
  refine WO_seg 1 [(4, .int .i64 (ixB p0 p1))] (by kernel_rfl) (by kernel_rfl) ?_
  refine WO_end rfl ?_
  refine X_then ?_
  refine W_ret ?_
  obtain rfl := Option.some.inj hr
  refine X_ret [.tmp 4] [.int .i64 (ixB p0 p1)] rfl (ResAll.cons (ResAt.tmp (by kernel_rfl)) ResAll.nil) ?_
  exact ⟨m, rfl, hm, st⟩

def strings_IndexByte (N : Nat) (p0 : ByteArray) (p1 : Int) : Option (Int) :=
  (internal_stringslite_IndexByte N p0 p1).bind fun y1 => some y1

set_option maxHeartbeats 4000000 in
set_option maxRecDepth 100000 in
theorem strings_IndexByte_ok {N : Nat} {m : Mem} {own : List Piece} {w : World} {p0 : ByteArray} {p1 : Int} {r : Int} (st : St m (own) w) (hr : strings_IndexByte N p0 p1 = some r) : Calls Go.Proofs.Tryd.prog 54 #[.string p0, .int .u8 p1] w fun e w' => ∃ (m' : Mem), e = .returned (.int .i64 r) ∧ m.le m' ∧ St m' (own) w' := by
  unfold strings_IndexByte at hr
  have hm := m.le_refl
  refine W_calls Go.Proofs.Tryd.func54 rfl Go.Proofs.Tryd.ntmps54 [(0, .string p0), (1, .int .u8 p1)] (by kernel_rfl) rfl ?_
  refine W_seq ?_
  refine W_region ?_
  refine WO_seg 1 [] (by kernel_rfl) (by kernel_rfl) ?_
  refine WO_end rfl ?_
  refine X_then ?_
  refine W_seq ?_
  refine W_region ?_
  refine WO_seg 2 [(5, .string p0), (6, .int .u8 p1)] (by kernel_rfl) (by kernel_rfl) ?_
  replace hr := bindS hr
  obtain ⟨y1, hx1, hr⟩ := hr
  refine WO_one rfl (One_fn 7 85 #[.string p0, .int .u8 p1] (by kernel_rfl) rfl ?_)
  refine (internal_stringslite_IndexByte_ok st hx1).mono ?_
  clear st
  rintro _ w1 ⟨m1, rfl, hle1, st⟩
  refine ⟨_, rfl, ?_⟩
  have hm := Mem.le_trans hm hle1
  refine WO_seg 1 [(4, .int .i64 y1)] (by kernel_rfl) (by kernel_rfl) ?_
  refine WO_end rfl ?_
  refine X_then ?_
  refine W_ret ?_
  obtain rfl := Option.some.inj hr
  refine X_ret [.tmp 4] [.int .i64 y1] rfl (ResAll.cons (ResAt.tmp (by kernel_rfl)) ResAll.nil) ?_
  exact ⟨m1, rfl, hm, st⟩

def internal_stringslite_HasPrefix (N : Nat) (p0 : ByteArray) (p1 : ByteArray) : Option (Bool) :=
  (if (decide ((ByteArray.size p0 : Int) ≥ (ByteArray.size p1 : Int))) = true then ((subB p0 0 (ByteArray.size p1 : Int)).bind fun s1 => some (s1.toList == p1.toList)) else (some false) : Option (Bool)).bind fun o1 => some o1

set_option maxHeartbeats 4000000 in
set_option maxRecDepth 100000 in
theorem internal_stringslite_HasPrefix_ok {N : Nat} {m : Mem} {own : List Piece} {w : World} {p0 : ByteArray} {p1 : ByteArray} {r : Bool} (st : St m (own) w) (hr : internal_stringslite_HasPrefix N p0 p1 = some r) : Calls Go.Proofs.Tryd.prog 106 #[.string p0, .string p1] w fun e w' => ∃ (m' : Mem), e = .returned (.bool r) ∧ m.le m' ∧ St m' (own) w' := by
  unfold internal_stringslite_HasPrefix at hr
  have hm := m.le_refl
  refine W_calls Go.Proofs.Tryd.func106 rfl Go.Proofs.Tryd.ntmps106 [(0, .string p0), (1, .string p1)] (by kernel_rfl) rfl ?_
  refine W_seq ?_
  refine W_region ?_
  refine WO_seg 1 [] (by kernel_rfl) (by kernel_rfl) ?_
  refine WO_end rfl ?_
  refine X_then ?_
  refine W_seq ?_
  refine W_region ?_
  replace hr := bindS hr
  obtain ⟨o1, hr, hrK⟩ := hr
  refine WO_cut (j := 14) (fun L' w' => ∃ (m1 : Mem), L' = [(4, .bool o1)] ∧ m.le m1 ∧ St m1 (own) w') ?_ ?_
  · clear hr st
    have hr := hrK
    clear hrK
    rintro _ w1 ⟨m1, rfl, hm, st⟩
    refine WO_end rfl ?_
    refine X_then ?_
    refine W_ret ?_
    obtain rfl := Option.some.inj hr
    refine X_ret [.tmp 4] [.bool o1] rfl (ResAll.cons (ResAt.tmp (by kernel_rfl)) ResAll.nil) ?_
    exact ⟨m1, rfl, hm, st⟩
  · intro K
    clear hrK
    refine WO_seg 6 [(10, .bool (decide ((ByteArray.size p0 : Int) ≥ (ByteArray.size p1 : Int))))] (by kernel_rfl) (by kernel_rfl) ?_
    rcases bcases (decide ((ByteArray.size p0 : Int) ≥ (ByteArray.size p1 : Int))) with hc | hc
    · rw [if_pos hc] at hr
      refine WO_fact (t := 10) (b := true) (decide ((ByteArray.size p0 : Int) ≥ (ByteArray.size p1 : Int))) (by kernel_rfl) hc ?_
      refine WO_seg 3 [(11, .string p0), (13, .int .i64 (ByteArray.size p1 : Int))] (by kernel_rfl) (by kernel_rfl) ?_
      replace hr := bindS hr
      obtain ⟨s1, hx1, hr⟩ := hr
      refine WO_one rfl (One_strSlice (d := 14) (t := 9) (x := (.tmp 11)) (lo := none) (hi := (some (.tmp 13))) (by kernel_rfl) rfl (show evL _ _ = some (.string p0) from (by kernel_rfl)) (by kernel_rfl) (.inl ⟨rfl, rfl⟩) (.inr ⟨_, _, rfl, (show evL _ _ = some (.int .i64 (ByteArray.size p1 : Int)) from (by kernel_rfl))⟩) hx1 ?_)
      refine WO_seg 4 [(4, .bool (s1.toList == p1.toList))] (by kernel_rfl) (by kernel_rfl) ?_
      obtain rfl := Option.some.inj hr
      exact WO_env _ (by kernel_rfl) (K _ _ ⟨m, rfl, hm, st⟩)
    · rw [if_neg (not_true hc)] at hr
      refine WO_fact (t := 10) (b := false) (decide ((ByteArray.size p0 : Int) ≥ (ByteArray.size p1 : Int))) (by kernel_rfl) hc ?_
      refine WO_seg 8 [(4, .bool false)] (by kernel_rfl) (by kernel_rfl) ?_
      obtain rfl := Option.some.inj hr
      exact WO_env _ (by kernel_rfl) (K _ _ ⟨m, rfl, hm, st⟩)

def strings_HasPrefix (N : Nat) (p0 : ByteArray) (p1 : ByteArray) : Option (Bool) :=
  (internal_stringslite_HasPrefix N p0 p1).bind fun y1 => some y1

set_option maxHeartbeats 4000000 in
set_option maxRecDepth 100000 in
theorem strings_HasPrefix_ok {N : Nat} {m : Mem} {own : List Piece} {w : World} {p0 : ByteArray} {p1 : ByteArray} {r : Bool} (st : St m (own) w) (hr : strings_HasPrefix N p0 p1 = some r) : Calls Go.Proofs.Tryd.prog 86 #[.string p0, .string p1] w fun e w' => ∃ (m' : Mem), e = .returned (.bool r) ∧ m.le m' ∧ St m' (own) w' := by
  unfold strings_HasPrefix at hr
  have hm := m.le_refl
  refine W_calls Go.Proofs.Tryd.func86 rfl Go.Proofs.Tryd.ntmps86 [(0, .string p0), (1, .string p1)] (by kernel_rfl) rfl ?_
  refine W_seq ?_
  refine W_region ?_
  refine WO_seg 1 [] (by kernel_rfl) (by kernel_rfl) ?_
  refine WO_end rfl ?_
  refine X_then ?_
  refine W_seq ?_
  refine W_region ?_
  refine WO_seg 2 [(5, .string p0), (6, .string p1)] (by kernel_rfl) (by kernel_rfl) ?_
  replace hr := bindS hr
  obtain ⟨y1, hx1, hr⟩ := hr
  refine WO_one rfl (One_fn 7 106 #[.string p0, .string p1] (by kernel_rfl) rfl ?_)
  refine (internal_stringslite_HasPrefix_ok st hx1).mono ?_
  clear st
  rintro _ w1 ⟨m1, rfl, hle1, st⟩
  refine ⟨_, rfl, ?_⟩
  have hm := Mem.le_trans hm hle1
  refine WO_seg 1 [(4, .bool y1)] (by kernel_rfl) (by kernel_rfl) ?_
  refine WO_end rfl ?_
  refine X_then ?_
  refine W_ret ?_
  obtain rfl := Option.some.inj hr
  refine X_ret [.tmp 4] [.bool y1] rfl (ResAll.cons (ResAt.tmp (by kernel_rfl)) ResAll.nil) ?_
  exact ⟨m1, rfl, hm, st⟩

def lexer_token_L1 (N : Nat) (l1 : List (UInt8)) (s3 : Int × Int) : Option ((Int × Int) ⊕ ((Int))) :=
  if (decide (s3.2 < (List.length l1 : Int))) = true then ((idx l1 s3.2).bind fun x2 => some (.inl (if 9007199254740993 < (IntKind.wrap .i64 ((IntKind.wrap .i64 (10 * s3.1)) + (IntKind.wrap .i64 (IntKind.wrap .u8 ((x2.toNat : Int) - 48))))) then 9007199254740993 else (IntKind.wrap .i64 ((IntKind.wrap .i64 (10 * s3.1)) + (IntKind.wrap .i64 (IntKind.wrap .u8 ((x2.toNat : Int) - 48))))), IntKind.wrap .i64 (s3.2 + 1)))) else (some (.inr s3.1))

def lexer_token_L2 (N : Nat) (p0 : ByteArray) (p1 : Int) (s4 : Int) : Option ((Int) ⊕ ((Unit) ⊕ ((Int × ByteArray × Int × Int) × Int × Int))) :=
  (if (decide (s4 < (ByteArray.size p0 : Int))) = true then ((idxB p0 s4).bind fun x3 => if (decide ((x3.toNat : Int) ≥ 32)) = true then ((idxB p0 s4).bind fun x4 => some (decide ((x4.toNat : Int) ≤ 126))) else (some false)) else (some false) : Option (Bool)).bind fun o3 => if o3 = true then ((idxB p0 s4).bind fun x5 => if ((x5.toNat : Int) == 34) = true then ((subB p0 (IntKind.wrap .i64 (p1 + 1)) s4).bind fun s5 => some (.inr (.inr (((3, s5, 0, 0), IntKind.wrap .i64 (s4 + 1), 0))))) else (some (.inl (IntKind.wrap .i64 (s4 + 1))))) else (some (.inr (.inl ())))

def lexer_token (N : Nat) (p0 : ByteArray) (p1 : Int) (p2 : Option (List (Int × Int))) : Option ((Int × ByteArray × Int × Int) × Int × Int) :=
  (idxB p0 p1).bind fun x1 => if (((mgetQ p2 (x1.toNat : Int)).getD 0) == 1) = true then ((lexer_span N p0 p1 p2 ([1, 2, 3])).bind fun y1 => if (decide ((IntKind.wrap .i64 (y1 - p1)) > 24)) = true then (some ((0, (⟨#[]⟩ : ByteArray), 0, 0), 0, 2)) else ((subB p0 p1 y1).bind fun s1 => some ((1, s1, 0, 0), y1, 0))) else (if (((mgetQ p2 (x1.toNat : Int)).getD 0) == 2) = true then ((lexer_span N p0 p1 p2 ([2])).bind fun y2 => (subB p0 p1 y2).bind fun s2 => (bytesOf s2).bind fun l1 => (loopM (lexer_token_L1 N l1) N (0, 0)).bind fun o1 => if (decide (o1 > 9007199254740992)) = true then (some ((0, (⟨#[]⟩ : ByteArray), 0, 0), 0, 3)) else (some ((2, (⟨#[]⟩ : ByteArray), o1, 0), y2, 0))) else (if (((mgetQ p2 (x1.toNat : Int)).getD 0) == 7) = true then ((loopM (lexer_token_L2 N p0 p1) N (IntKind.wrap .i64 (p1 + 1))).bind fun out2 => (match out2 with | .inl o2 => some ((0, (⟨#[]⟩ : ByteArray), 0, 0), 0, 9) | .inr (z) => some z)) else (if (((mgetQ p2 (x1.toNat : Int)).getD 0) == 8) = true then ((subB p0 p1 (ByteArray.size p0 : Int)).bind fun s6 => (strings_HasPrefix N s6 (⟨#[61, 61]⟩ : ByteArray)).bind fun y3 => (if y3 = true then (some (IntKind.wrap .i64 ((IntKind.wrap .i64 (p1 + 1)) + 1))) else (some (IntKind.wrap .i64 (p1 + 1))) : Option (Int)).bind fun o4 => (subB p0 p1 o4).bind fun s7 => some ((4, s7, 0, 0), o4, 0)) else (some ((0, (⟨#[]⟩ : ByteArray), 0, 0), 0, 9)))))

set_option maxHeartbeats 4000000 in
set_option maxRecDepth 100000 in
theorem lexer_token_ok {N : Nat} {m : Mem} {own : List Piece} {w : World} {p0 : ByteArray} {p1 : Int} {p2 : Option (List (Int × Int))} {q1 : Option Nat} {es1 : Array MapEntry} {ck1 : Nat} {r : (Int × ByteArray × Int × Int) × Int × Int} (st : St m (mpiece q1 es1 ck1 :: own) w) (r1 : MapQ (fun n : Int => Value.int .u8 n) (cInt .i64) false m q1 es1 ck1 p2) (hr : lexer_token N p0 p1 p2 = some r) : Calls Go.Proofs.Tryd.prog 55 #[.string p0, .int .i64 p1, .map q1] w fun e w' => ∃ (m' : Mem), e = .returned (.tuple #[.agg #[.int .i64 r.1.1, .string r.1.2.1, .int .i64 r.1.2.2.1, .int .i64 r.1.2.2.2], .int .i64 r.2.1, .int .i64 r.2.2]) ∧ m.le m' ∧ St m' (mpiece q1 es1 ck1 :: own) w' := by
  unfold lexer_token at hr
  have hm := m.le_refl
  refine W_calls Go.Proofs.Tryd.func55 rfl Go.Proofs.Tryd.ntmps55 [(0, .string p0), (1, .int .i64 p1), (2, .map q1)] (by kernel_rfl) rfl ?_
  refine W_seq ?_
  refine W_region ?_
  refine WO_one rfl (One_alloc (d := 6) (e := 42) (.agg #[.int .i64 0, .string (⟨#[]⟩ : ByteArray), .int .i64 0, .int .i64 0]) (by kernel_rfl) rfl (by kernel_rfl) st ?_)
  clear st
  intro b1 w1 st
  refine WO_seg 2 [] (by kernel_rfl) (by kernel_rfl) ?_
  refine WO_end rfl ?_
  refine X_then ?_
  refine W_seq ?_
  refine W_seq ?_
  refine W_region ?_
  refine WO_seg 3 [(16, .map q1), (17, .string p0), (18, .int .i64 p1)] (by kernel_rfl) (by kernel_rfl) ?_
  replace hr := bindS hr
  obtain ⟨x1, hx1, hr⟩ := hr
  refine WO_one rfl (One_strIndex (d := 19) (t := 9) (x := (.tmp 17)) (y := (.tmp 18)) (by kernel_rfl) rfl (show evL _ _ = some (.string p0) from (by kernel_rfl)) (show evL _ _ = some (.int .i64 p1) from (by kernel_rfl)) (by kernel_rfl) hx1 ?_)
  refine WO_one rfl (One_lookup (ek := (fun n : Int => Value.int .u8 n)) (c := (cInt .i64)) (agg := false) (k := (x1.toNat : Int)) (zx := 0) (zcs := [.int .i64 0]) (z := (.int .i64 0)) (kt := 5) (et := 3) (d := 20) (t := 68) (x := (.tmp 16)) (y := (.tmp 19)) (ok := false) (by kernel_rfl) rfl (show evL _ _ = some (.map q1) from (by kernel_rfl)) (show evL _ _ = some (.int .u8 (x1.toNat : Int)) from (by kernel_rfl)) (by kernel_rfl) (keyInt (by kernel_rfl)) st.tail.head r1 rfl rfl ?_)
  rintro cs1 rfl
  refine WO_end rfl ?_
  refine X_then ?_
  refine W_block ?_
  refine W_seq ?_
  refine W_region ?_
  refine WO_seg 2 [(21, .bool (((mgetQ p2 (x1.toNat : Int)).getD 0) == 1))] (by kernel_rfl) (by kernel_rfl) ?_
  refine WO_end rfl ?_
  refine X_then ?_
  refine W_cond (((mgetQ p2 (x1.toNat : Int)).getD 0) == 1) (by kernel_rfl) ?_ ?_
  · intro hc
    rw [if_pos hc] at hr
    refine W_seq ?_
    refine W_region ?_
    refine WO_seg 3 [(23, .string p0), (24, .int .i64 p1), (25, .map q1)] (by kernel_rfl) (by kernel_rfl) ?_
    refine WO_one rfl (One_buildSlice (d := 26) (t := 26) (e := 3) (len := 3) (parts := #[(0, (.const (.int .i64 1))), (1, (.const (.int .i64 2))), (2, (.const (.int .i64 3)))]) (cInt .i64) (xs := [1, 2, 3]) [.int .i64 1, .int .i64 2, .int .i64 3] (by kernel_rfl) rfl (fun _ => buildCells_run (by kernel_rfl) _) rfl rfl st ⟨[.int .i64 1], _, rfl, rfl, ⟨[.int .i64 2], _, rfl, rfl, ⟨[.int .i64 3], _, rfl, rfl, rfl⟩⟩⟩ ?_)
    clear st
    intro b2 m1 w2 hle1 st r2
    have hm := Mem.le_trans hm hle1
    have r1 := r1.mono hle1
    have st := st.front2
    replace hr := bindS hr
    obtain ⟨y1, hx2, hr⟩ := hr
    refine WO_one rfl (One_fn 27 50 #[.string p0, .int .i64 p1, .map q1, .slice (some ⟨b2, 0, none⟩) (List.length ([1, 2, 3])) 3] (by kernel_rfl) rfl ?_)
    refine (lexer_span_ok st r1 r2 hx2).mono ?_
    clear st
    rintro _ w3 ⟨m2, rfl, hle2, st⟩
    refine ⟨_, rfl, ?_⟩
    have hm := Mem.le_trans hm hle2
    have r2 := r2.mono hle2
    have r1 := r1.mono hle2
    refine WO_seg 1 [(9, .int .i64 y1)] (by kernel_rfl) (by kernel_rfl) ?_
    refine WO_end rfl ?_
    have st := st.front1
    have st := st.tail
    refine X_then ?_
    refine W_seq ?_
    refine W_seq ?_
    refine W_region ?_
    refine WO_seg 4 [(31, .bool (decide ((IntKind.wrap .i64 (y1 - p1)) > 24)))] (by kernel_rfl) (by kernel_rfl) ?_
    refine WO_end rfl ?_
    refine X_then ?_
    refine W_cond (decide ((IntKind.wrap .i64 (y1 - p1)) > 24)) (by kernel_rfl) ?_ ?_
    · intro hc
      rw [if_pos hc] at hr
      refine W_seq ?_
      refine W_region ?_
      refine WO_seg 1 [(32, .agg #[.int .i64 0, .string (⟨#[]⟩ : ByteArray), .int .i64 0, .int .i64 0])] (by kernel_rfl) (by kernel_rfl) ?_
      have st := st.front1
      refine WO_one rfl (One_store (t := 42) (x := (.tmp 6)) (y := (.tmp 32)) (v := .agg #[.int .i64 0, .string (⟨#[]⟩ : ByteArray), .int .i64 0, .int .i64 0]) (c' := #[.int .i64 0, .string (⟨#[]⟩ : ByteArray), .int .i64 0, .int .i64 0]) (by kernel_rfl) (show evL _ _ = some (.pointer (some ⟨b1, 0, none⟩)) from (by kernel_rfl)) (show evL _ _ = some (.agg #[.int .i64 0, .string (⟨#[]⟩ : ByteArray), .int .i64 0, .int .i64 0]) from (by kernel_rfl)) st (by kernel_rfl) (by kernel_rfl) ?_)
      clear st
      intro w4 st
      refine WO_seg 2 [(7, .int .i64 0), (8, .int .i64 2)] (by kernel_rfl) (by kernel_rfl) ?_
      refine WO_end rfl ?_
      refine X_then ?_
      refine W_ret ?_
      refine X_then_ret ?_
      refine X_block_ret ?_
      refine X_then_ret ?_
      obtain rfl := Option.some.inj hr
      refine X_ret [.cell 6 42, .tmp 7, .tmp 8] [.agg #[.int .i64 0, .string (⟨#[]⟩ : ByteArray), .int .i64 0, .int .i64 0], .int .i64 0, .int .i64 2] rfl (ResAll.cons (ResAt.blk (v := .agg #[.int .i64 0, .string (⟨#[]⟩ : ByteArray), .int .i64 0, .int .i64 0]) (o := 0) (by kernel_rfl) st.head (by kernel_rfl)) (ResAll.cons (ResAt.tmp (by kernel_rfl)) (ResAll.cons (ResAt.tmp (by kernel_rfl)) ResAll.nil))) ?_
      have st := st.tail
      exact ⟨m2, rfl, hm, st⟩
    · intro hc
      rw [if_neg (not_true hc)] at hr
      refine W_skip ?_
      refine X_then ?_
      refine W_seq ?_
      refine W_region ?_
      refine WO_seg 3 [(33, .string p0), (34, .int .i64 p1), (35, .int .i64 y1)] (by kernel_rfl) (by kernel_rfl) ?_
      replace hr := bindS hr
      obtain ⟨s1, hx3, hr⟩ := hr
      refine WO_one rfl (One_strSlice (d := 36) (t := 9) (x := (.tmp 33)) (lo := (some (.tmp 34))) (hi := (some (.tmp 35))) (by kernel_rfl) rfl (show evL _ _ = some (.string p0) from (by kernel_rfl)) (by kernel_rfl) (.inr ⟨_, _, rfl, (show evL _ _ = some (.int .i64 p1) from (by kernel_rfl))⟩) (.inr ⟨_, _, rfl, (show evL _ _ = some (.int .i64 y1) from (by kernel_rfl))⟩) hx3 ?_)
      refine WO_seg 2 [(37, .agg #[.int .i64 1, .string s1, .int .i64 0, .int .i64 0]), (38, .int .i64 y1)] (by kernel_rfl) (by kernel_rfl) ?_
      have st := st.front1
      refine WO_one rfl (One_store (t := 42) (x := (.tmp 6)) (y := (.tmp 37)) (v := .agg #[.int .i64 1, .string s1, .int .i64 0, .int .i64 0]) (c' := #[.int .i64 1, .string s1, .int .i64 0, .int .i64 0]) (by kernel_rfl) (show evL _ _ = some (.pointer (some ⟨b1, 0, none⟩)) from (by kernel_rfl)) (show evL _ _ = some (.agg #[.int .i64 1, .string s1, .int .i64 0, .int .i64 0]) from (by kernel_rfl)) st (by kernel_rfl) (by kernel_rfl) ?_)
      clear st
      intro w5 st
      refine WO_seg 2 [(7, .int .i64 y1), (8, .int .i64 0)] (by kernel_rfl) (by kernel_rfl) ?_
      refine WO_end rfl ?_
      refine X_then ?_
      refine W_ret ?_
      refine X_block_ret ?_
      refine X_then_ret ?_
      obtain rfl := Option.some.inj hr
      refine X_ret [.cell 6 42, .tmp 7, .tmp 8] [.agg #[.int .i64 1, .string s1, .int .i64 0, .int .i64 0], .int .i64 y1, .int .i64 0] rfl (ResAll.cons (ResAt.blk (v := .agg #[.int .i64 1, .string s1, .int .i64 0, .int .i64 0]) (o := 0) (by kernel_rfl) st.head (by kernel_rfl)) (ResAll.cons (ResAt.tmp (by kernel_rfl)) (ResAll.cons (ResAt.tmp (by kernel_rfl)) ResAll.nil))) ?_
      have st := st.tail
      exact ⟨m2, rfl, hm, st⟩
  · intro hc
    rw [if_neg (not_true hc)] at hr
    refine W_seq ?_
    refine W_region ?_
    refine WO_seg 2 [(39, .bool (((mgetQ p2 (x1.toNat : Int)).getD 0) == 2))] (by kernel_rfl) (by kernel_rfl) ?_
    refine WO_end rfl ?_
    refine X_then ?_
    refine W_cond (((mgetQ p2 (x1.toNat : Int)).getD 0) == 2) (by kernel_rfl) ?_ ?_
    · intro hc
      rw [if_pos hc] at hr
      refine W_seq ?_
      refine W_region ?_
      refine WO_seg 3 [(41, .string p0), (42, .int .i64 p1), (43, .map q1)] (by kernel_rfl) (by kernel_rfl) ?_
      refine WO_one rfl (One_buildSlice (d := 44) (t := 26) (e := 3) (len := 1) (parts := #[(0, (.const (.int .i64 2)))]) (cInt .i64) (xs := [2]) [.int .i64 2] (by kernel_rfl) rfl (fun _ => buildCells_run (by kernel_rfl) _) rfl rfl st ⟨[.int .i64 2], _, rfl, rfl, rfl⟩ ?_)
      clear st
      intro b3 m3 w6 hle3 st r3
      have hm := Mem.le_trans hm hle3
      have r1 := r1.mono hle3
      have st := st.front2
      replace hr := bindS hr
      obtain ⟨y2, hx4, hr⟩ := hr
      refine WO_one rfl (One_fn 45 50 #[.string p0, .int .i64 p1, .map q1, .slice (some ⟨b3, 0, none⟩) (List.length ([2])) 1] (by kernel_rfl) rfl ?_)
      refine (lexer_span_ok st r1 r3 hx4).mono ?_
      clear st
      rintro _ w7 ⟨m4, rfl, hle4, st⟩
      refine ⟨_, rfl, ?_⟩
      have hm := Mem.le_trans hm hle4
      have r3 := r3.mono hle4
      have r1 := r1.mono hle4
      refine WO_seg 1 [(10, .int .i64 y2)] (by kernel_rfl) (by kernel_rfl) ?_
      refine WO_end rfl ?_
      have st := st.front1
      have st := st.tail
      refine X_then ?_
      refine W_seq ?_
      refine W_region ?_
      refine WO_seg 1 [(11, .int .i64 0)] (by kernel_rfl) (by kernel_rfl) ?_
      refine WO_end rfl ?_
      refine X_then ?_
      refine W_seq ?_
      refine W_seq ?_
      refine W_region ?_
      refine WO_seg 3 [(46, .string p0), (47, .int .i64 p1), (48, .int .i64 y2)] (by kernel_rfl) (by kernel_rfl) ?_
      replace hr := bindS hr
      obtain ⟨s2, hx5, hr⟩ := hr
      refine WO_one rfl (One_strSlice (d := 49) (t := 9) (x := (.tmp 46)) (lo := (some (.tmp 47))) (hi := (some (.tmp 48))) (by kernel_rfl) rfl (show evL _ _ = some (.string p0) from (by kernel_rfl)) (by kernel_rfl) (.inr ⟨_, _, rfl, (show evL _ _ = some (.int .i64 p1) from (by kernel_rfl))⟩) (.inr ⟨_, _, rfl, (show evL _ _ = some (.int .i64 y2) from (by kernel_rfl))⟩) hx5 ?_)
      replace hr := bindS hr
      obtain ⟨l1, hx6, hr⟩ := hr
      refine WO_one rfl (One_strBytes (d := 50) (t1 := 9) (t2 := 43) (e := 5) (x := (.tmp 49)) (by kernel_rfl) rfl (show evL _ _ = some (.string s2) from (by kernel_rfl)) (by kernel_rfl) (by kernel_rfl) st hx6 ?_)
      clear st
      intro b4 c1 m5 w8 hle5 st r4
      have hm := Mem.le_trans hm hle5
      have r1 := r1.mono hle5
      refine WO_seg 2 [(51, .int .i64 (List.length l1 : Int)), (52, .int .i64 0)] (by kernel_rfl) (by kernel_rfl) ?_
      refine WO_end rfl ?_
      refine X_then ?_
      refine W_block ?_
      replace hr := bindS hr
      obtain ⟨out1, hr, hrKu1⟩ := hr
      refine W_cut (.exit 1) (fun L' w' => ∃ (o1 : Int) (m6 : Mem), o1 = out1 ∧ L' = [(6, .pointer (some ⟨b1, 0, none⟩)), (10, .int .i64 y2), (11, .int .i64 o1)] ∧ m.le m6 ∧ St m6 (.blk b1 (.cells #[.int .i64 0, .string (⟨#[]⟩ : ByteArray), .int .i64 0, .int .i64 0] 42 (0, 0)) :: mpiece q1 es1 ck1 :: own) w' ∧ MapQ (fun n : Int => Value.int .u8 n) (cInt .i64) false m6 q1 es1 ck1 p2) ?_ ?_
      · clear hr st
        rintro _ w9 ⟨o1, m6, rfl, rfl, hm, st, r1⟩
        have hr := hrKu1
        clear hrKu1
        refine X_block_eq ?_
        refine X_then ?_
        refine W_seq ?_
        refine W_seq ?_
        refine W_region ?_
        refine WO_seg 2 [(65, .bool (decide (o1 > 9007199254740992)))] (by kernel_rfl) (by kernel_rfl) ?_
        refine WO_end rfl ?_
        refine X_then ?_
        refine W_cond (decide (o1 > 9007199254740992)) (by kernel_rfl) ?_ ?_
        · intro hc
          rw [if_pos hc] at hr
          refine W_seq ?_
          refine W_region ?_
          refine WO_seg 1 [(66, .agg #[.int .i64 0, .string (⟨#[]⟩ : ByteArray), .int .i64 0, .int .i64 0])] (by kernel_rfl) (by kernel_rfl) ?_
          refine WO_one rfl (One_store (t := 42) (x := (.tmp 6)) (y := (.tmp 66)) (v := .agg #[.int .i64 0, .string (⟨#[]⟩ : ByteArray), .int .i64 0, .int .i64 0]) (c' := #[.int .i64 0, .string (⟨#[]⟩ : ByteArray), .int .i64 0, .int .i64 0]) (by kernel_rfl) (show evL _ _ = some (.pointer (some ⟨b1, 0, none⟩)) from (by kernel_rfl)) (show evL _ _ = some (.agg #[.int .i64 0, .string (⟨#[]⟩ : ByteArray), .int .i64 0, .int .i64 0]) from (by kernel_rfl)) st (by kernel_rfl) (by kernel_rfl) ?_)
          clear st
          intro w11 st
          refine WO_seg 2 [(7, .int .i64 0), (8, .int .i64 3)] (by kernel_rfl) (by kernel_rfl) ?_
          refine WO_end rfl ?_
          refine X_then ?_
          refine W_ret ?_
          refine X_then_ret ?_
          refine X_block_ret ?_
          refine X_then_ret ?_
          obtain rfl := Option.some.inj hr
          refine X_ret [.cell 6 42, .tmp 7, .tmp 8] [.agg #[.int .i64 0, .string (⟨#[]⟩ : ByteArray), .int .i64 0, .int .i64 0], .int .i64 0, .int .i64 3] rfl (ResAll.cons (ResAt.blk (v := .agg #[.int .i64 0, .string (⟨#[]⟩ : ByteArray), .int .i64 0, .int .i64 0]) (o := 0) (by kernel_rfl) st.head (by kernel_rfl)) (ResAll.cons (ResAt.tmp (by kernel_rfl)) (ResAll.cons (ResAt.tmp (by kernel_rfl)) ResAll.nil))) ?_
          have st := st.tail
          exact ⟨m6, rfl, hm, st⟩
        · intro hc
          rw [if_neg (not_true hc)] at hr
          refine W_skip ?_
          refine X_then ?_
          refine W_seq ?_
          refine W_region ?_
          refine WO_seg 3 [(68, .agg #[.int .i64 2, .string (⟨#[]⟩ : ByteArray), .int .i64 o1, .int .i64 0]), (69, .int .i64 y2)] (by kernel_rfl) (by kernel_rfl) ?_
          refine WO_one rfl (One_store (t := 42) (x := (.tmp 6)) (y := (.tmp 68)) (v := .agg #[.int .i64 2, .string (⟨#[]⟩ : ByteArray), .int .i64 o1, .int .i64 0]) (c' := #[.int .i64 2, .string (⟨#[]⟩ : ByteArray), .int .i64 o1, .int .i64 0]) (by kernel_rfl) (show evL _ _ = some (.pointer (some ⟨b1, 0, none⟩)) from (by kernel_rfl)) (show evL _ _ = some (.agg #[.int .i64 2, .string (⟨#[]⟩ : ByteArray), .int .i64 o1, .int .i64 0]) from (by kernel_rfl)) st (by kernel_rfl) (by kernel_rfl) ?_)
          clear st
          intro w12 st
          refine WO_seg 2 [(7, .int .i64 y2), (8, .int .i64 0)] (by kernel_rfl) (by kernel_rfl) ?_
          refine WO_end rfl ?_
          refine X_then ?_
          refine W_ret ?_
          refine X_block_ret ?_
          refine X_then_ret ?_
          obtain rfl := Option.some.inj hr
          refine X_ret [.cell 6 42, .tmp 7, .tmp 8] [.agg #[.int .i64 2, .string (⟨#[]⟩ : ByteArray), .int .i64 o1, .int .i64 0], .int .i64 y2, .int .i64 0] rfl (ResAll.cons (ResAt.blk (v := .agg #[.int .i64 2, .string (⟨#[]⟩ : ByteArray), .int .i64 o1, .int .i64 0]) (o := 0) (by kernel_rfl) st.head (by kernel_rfl)) (ResAll.cons (ResAt.tmp (by kernel_rfl)) (ResAll.cons (ResAt.tmp (by kernel_rfl)) ResAll.nil))) ?_
          have st := st.tail
          exact ⟨m6, rfl, hm, st⟩
      intro K1_u1
      clear hrKu1
      have st := st.front1
      refine W_env _ (by kernel_rfl) (W_loop (fun k1 L' w' => ∃ (s3 : Int × Int) (m7 : Mem), loopM (lexer_token_L1 N l1) k1 s3 = some out1 ∧ L' = [(6, .pointer (some ⟨b1, 0, none⟩)), (10, .int .i64 y2), (11, .int .i64 s3.1), (50, .slice (some ⟨b4, 0, none⟩) (List.length l1) c1), (51, .int .i64 (List.length l1 : Int)), (52, .int .i64 s3.2)] ∧ m.le m7 ∧ St m7 (.blk b1 (.cells #[.int .i64 0, .string (⟨#[]⟩ : ByteArray), .int .i64 0, .int .i64 0] 42 (0, 0)) :: mpiece q1 es1 ck1 :: own) w' ∧ RepS cU8 m7 (some ⟨b4, 0, none⟩) c1 l1 ∧ MapQ (fun n : Int => Value.int .u8 n) (cInt .i64) false m7 q1 es1 ck1 p2) N ⟨(0, 0), m5, hr, rfl, hm, st, r4, r1⟩ ?_)
      clear st hr
      rintro k1 _ w10 ⟨s3, m7, hL, rfl, hm, st, r4, r1⟩
      rcases k1 with _ | k1
      · exact loopM_zero hL
      · obtain ⟨qu1, hr, hSu1, hBu1⟩ := loopM_succ hL
        clear hL
        unfold lexer_token_L1 at hr
        refine W_seq ?_
        refine W_region ?_
        refine WO_seg 1 [(53, .bool (decide (s3.2 < (List.length l1 : Int))))] (by kernel_rfl) (by kernel_rfl) ?_
        refine WO_end rfl ?_
        refine X_then ?_
        refine W_seq ?_
        refine W_cond (decide (s3.2 < (List.length l1 : Int))) (by kernel_rfl) ?_ ?_
        · intro hc
          rw [if_pos hc] at hr
          refine W_skip ?_
          refine X_then ?_
          refine W_seq ?_
          refine W_block ?_
          refine W_seq ?_
          refine W_region ?_
          replace hr := bindS hr
          obtain ⟨x2, hx7, hr⟩ := hr
          refine WO_one rfl (One_index (d := 54) (t := 43) (e := 5) (x := (.tmp 50)) (y := (.tmp 52)) cU8 (by kernel_rfl) rfl (show evL _ _ = some (.slice (some ⟨b4, 0, none⟩) (List.length l1) c1) from (by kernel_rfl)) (show evL _ _ = some (.int .i64 s3.2) from (by kernel_rfl)) (by kernel_rfl) r4 hx7 ?_)
          rintro b5 f1 cs2 rfl hq1
          refine WO_one rfl (One_load_row (d := 55) (t := 5) (x := (.tmp 54)) (.int .u8 (x2.toNat : Int)) (by kernel_rfl) rfl (show evL _ _ = some (.pointer (some ⟨b5, f1, none⟩)) from (by kernel_rfl)) st hq1 (by kernel_rfl) ?_)
          refine WO_seg 1 [(13, .int .u8 (x2.toNat : Int))] (by kernel_rfl) (by kernel_rfl) ?_
          refine WO_end rfl ?_
          refine X_then ?_
          refine W_region ?_
          refine WO_seg 8 [(11, .int .i64 (if 9007199254740993 < (IntKind.wrap .i64 ((IntKind.wrap .i64 (10 * s3.1)) + (IntKind.wrap .i64 (IntKind.wrap .u8 ((x2.toNat : Int) - 48))))) then 9007199254740993 else (IntKind.wrap .i64 ((IntKind.wrap .i64 (10 * s3.1)) + (IntKind.wrap .i64 (IntKind.wrap .u8 ((x2.toNat : Int) - 48)))))))] (by kernel_rfl) (by kernel_rfl) ?_
          refine WO_end rfl ?_
          refine X_block ?_
          refine X_then ?_
          refine W_region ?_
          refine WO_seg 2 [(52, .int .i64 (IntKind.wrap .i64 (s3.2 + 1)))] (by kernel_rfl) (by kernel_rfl) ?_
          refine WO_end rfl ?_
          obtain rfl := Option.some.inj hr
          have hL := hSu1 _ rfl
          have st := st.front1
          have st := st.front1
          exact X_env _ (by kernel_rfl) (X_round k1 (Nat.lt_succ_self _) ⟨(if 9007199254740993 < (IntKind.wrap .i64 ((IntKind.wrap .i64 (10 * s3.1)) + (IntKind.wrap .i64 (IntKind.wrap .u8 ((x2.toNat : Int) - 48))))) then 9007199254740993 else (IntKind.wrap .i64 ((IntKind.wrap .i64 (10 * s3.1)) + (IntKind.wrap .i64 (IntKind.wrap .u8 ((x2.toNat : Int) - 48))))), IntKind.wrap .i64 (s3.2 + 1)), m7, hL, rfl, hm, st, r4, r1⟩)
        · intro hc
          rw [if_neg (not_true hc)] at hr
          refine W_exit ?_
          refine X_then_exit ?_
          obtain rfl := Option.some.inj hr
          have ho := hBu1 _ rfl
          have st := st.front1
          have st := st.front1
          refine X_then_exit ?_
          exact X_env _ (by kernel_rfl) (K1_u1 _ _ ⟨s3.1, m7, ho, rfl, hm, st, r1⟩)
    · intro hc
      rw [if_neg (not_true hc)] at hr
      refine W_seq ?_
      refine W_region ?_
      refine WO_seg 2 [(70, .bool (((mgetQ p2 (x1.toNat : Int)).getD 0) == 7))] (by kernel_rfl) (by kernel_rfl) ?_
      refine WO_end rfl ?_
      refine X_then ?_
      refine W_cond (((mgetQ p2 (x1.toNat : Int)).getD 0) == 7) (by kernel_rfl) ?_ ?_
      · intro hc
        rw [if_pos hc] at hr
        refine W_seq ?_
        refine W_seq ?_
        refine W_region ?_
        refine WO_seg 3 [(14, .int .i64 (IntKind.wrap .i64 (p1 + 1)))] (by kernel_rfl) (by kernel_rfl) ?_
        refine WO_end rfl ?_
        refine X_then ?_
        refine W_block ?_
        replace hr := bindS hr
        obtain ⟨out2, hr, hrKu2⟩ := hr
        refine W_cut (.exit 3) (fun L' w' => ∃ (o2 : Unit) (m8 : Mem), (.inl o2) = out2 ∧ L' = [(6, .pointer (some ⟨b1, 0, none⟩))] ∧ m.le m8 ∧ St m8 (.blk b1 (.cells #[.int .i64 0, .string (⟨#[]⟩ : ByteArray), .int .i64 0, .int .i64 0] 42 (0, 0)) :: mpiece q1 es1 ck1 :: own) w' ∧ MapQ (fun n : Int => Value.int .u8 n) (cInt .i64) false m8 q1 es1 ck1 p2) ?_ ?_
        · clear hr st
          rintro _ w13 ⟨o2, m8, rfl, rfl, hm, st, r1⟩
          have hr := hrKu2
          clear hrKu2
          dsimp only at hr
          refine X_block_eq ?_
          refine X_then ?_
          refine W_seq ?_
          refine W_region ?_
          refine WO_seg 1 [(104, .agg #[.int .i64 0, .string (⟨#[]⟩ : ByteArray), .int .i64 0, .int .i64 0])] (by kernel_rfl) (by kernel_rfl) ?_
          refine WO_one rfl (One_store (t := 42) (x := (.tmp 6)) (y := (.tmp 104)) (v := .agg #[.int .i64 0, .string (⟨#[]⟩ : ByteArray), .int .i64 0, .int .i64 0]) (c' := #[.int .i64 0, .string (⟨#[]⟩ : ByteArray), .int .i64 0, .int .i64 0]) (by kernel_rfl) (show evL _ _ = some (.pointer (some ⟨b1, 0, none⟩)) from (by kernel_rfl)) (show evL _ _ = some (.agg #[.int .i64 0, .string (⟨#[]⟩ : ByteArray), .int .i64 0, .int .i64 0]) from (by kernel_rfl)) st (by kernel_rfl) (by kernel_rfl) ?_)
          clear st
          intro w17 st
          refine WO_seg 2 [(7, .int .i64 0), (8, .int .i64 9)] (by kernel_rfl) (by kernel_rfl) ?_
          refine WO_end rfl ?_
          refine X_then ?_
          refine W_ret ?_
          refine X_block_ret ?_
          refine X_then_ret ?_
          obtain rfl := Option.some.inj hr
          refine X_ret [.cell 6 42, .tmp 7, .tmp 8] [.agg #[.int .i64 0, .string (⟨#[]⟩ : ByteArray), .int .i64 0, .int .i64 0], .int .i64 0, .int .i64 9] rfl (ResAll.cons (ResAt.blk (v := .agg #[.int .i64 0, .string (⟨#[]⟩ : ByteArray), .int .i64 0, .int .i64 0]) (o := 0) (by kernel_rfl) st.head (by kernel_rfl)) (ResAll.cons (ResAt.tmp (by kernel_rfl)) (ResAll.cons (ResAt.tmp (by kernel_rfl)) ResAll.nil))) ?_
          have st := st.tail
          exact ⟨m8, rfl, hm, st⟩
        intro K3_u2
        have st := st.front1
        have st := st.front1
        refine W_env _ (by kernel_rfl) (W_loop (fun k2 L' w' => ∃ (s4 : Int) (m9 : Mem), loopM (lexer_token_L2 N p0 p1) k2 s4 = some out2 ∧ L' = [(0, .string p0), (1, .int .i64 p1), (6, .pointer (some ⟨b1, 0, none⟩)), (14, .int .i64 s4)] ∧ m.le m9 ∧ St m9 (.blk b1 (.cells #[.int .i64 0, .string (⟨#[]⟩ : ByteArray), .int .i64 0, .int .i64 0] 42 (0, 0)) :: mpiece q1 es1 ck1 :: own) w' ∧ MapQ (fun n : Int => Value.int .u8 n) (cInt .i64) false m9 q1 es1 ck1 p2) N ⟨IntKind.wrap .i64 (p1 + 1), m, hr, rfl, hm, st, r1⟩ ?_)
        clear st hr
        rintro k2 _ w14 ⟨s4, m9, hL, rfl, hm, st, r1⟩
        rcases k2 with _ | k2
        · exact loopM_zero hL
        · obtain ⟨qu2, hr, hSu2, hBu2⟩ := loopM_succ hL
          clear hL
          unfold lexer_token_L2 at hr
          refine W_seq ?_
          refine W_seq ?_
          refine W_region ?_
          replace hr := bindS hr
          obtain ⟨o3, hr, hrK⟩ := hr
          refine WO_cut (j := 16) (fun L' w' => ∃ (m10 : Mem), L' = [(0, .string p0), (1, .int .i64 p1), (6, .pointer (some ⟨b1, 0, none⟩)), (14, .int .i64 s4), (89, .bool o3)] ∧ m.le m10 ∧ St m10 (.blk b1 (.cells #[.int .i64 0, .string (⟨#[]⟩ : ByteArray), .int .i64 0, .int .i64 0] 42 (0, 0)) :: mpiece q1 es1 ck1 :: own) w' ∧ MapQ (fun n : Int => Value.int .u8 n) (cInt .i64) false m10 q1 es1 ck1 p2) ?_ ?_
          · clear hr st
            have hr := hrK
            clear hrK
            rintro _ w15 ⟨m10, rfl, hm, st, r1⟩
            refine WO_end rfl ?_
            refine X_then ?_
            refine W_cond o3 (by kernel_rfl) ?_ ?_
            · intro hc
              rw [if_pos hc] at hr
              refine W_skip ?_
              refine X_then ?_
              refine W_seq ?_
              refine W_block ?_
              refine W_seq ?_
              refine W_region ?_
              refine WO_seg 2 [(92, .string p0), (93, .int .i64 s4)] (by kernel_rfl) (by kernel_rfl) ?_
              replace hr := bindS hr
              obtain ⟨x5, hx10, hr⟩ := hr
              refine WO_one rfl (One_strIndex (d := 94) (t := 9) (x := (.tmp 92)) (y := (.tmp 93)) (by kernel_rfl) rfl (show evL _ _ = some (.string p0) from (by kernel_rfl)) (show evL _ _ = some (.int .i64 s4) from (by kernel_rfl)) (by kernel_rfl) hx10 ?_)
              refine WO_seg 1 [(95, .bool ((x5.toNat : Int) == 34))] (by kernel_rfl) (by kernel_rfl) ?_
              refine WO_end rfl ?_
              refine X_then ?_
              refine W_cond ((x5.toNat : Int) == 34) (by kernel_rfl) ?_ ?_
              · intro hc
                rw [if_pos hc] at hr
                refine W_seq ?_
                refine W_region ?_
                refine WO_seg 4 [(96, .string p0), (98, .int .i64 (IntKind.wrap .i64 (p1 + 1))), (99, .int .i64 s4)] (by kernel_rfl) (by kernel_rfl) ?_
                replace hr := bindS hr
                obtain ⟨s5, hx11, hr⟩ := hr
                refine WO_one rfl (One_strSlice (d := 100) (t := 9) (x := (.tmp 96)) (lo := (some (.tmp 98))) (hi := (some (.tmp 99))) (by kernel_rfl) rfl (show evL _ _ = some (.string p0) from (by kernel_rfl)) (by kernel_rfl) (.inr ⟨_, _, rfl, (show evL _ _ = some (.int .i64 (IntKind.wrap .i64 (p1 + 1))) from (by kernel_rfl))⟩) (.inr ⟨_, _, rfl, (show evL _ _ = some (.int .i64 s4) from (by kernel_rfl))⟩) hx11 ?_)
                refine WO_seg 3 [(101, .agg #[.int .i64 3, .string s5, .int .i64 0, .int .i64 0]), (103, .int .i64 (IntKind.wrap .i64 (s4 + 1)))] (by kernel_rfl) (by kernel_rfl) ?_
                refine WO_one rfl (One_store (t := 42) (x := (.tmp 6)) (y := (.tmp 101)) (v := .agg #[.int .i64 3, .string s5, .int .i64 0, .int .i64 0]) (c' := #[.int .i64 3, .string s5, .int .i64 0, .int .i64 0]) (by kernel_rfl) (show evL _ _ = some (.pointer (some ⟨b1, 0, none⟩)) from (by kernel_rfl)) (show evL _ _ = some (.agg #[.int .i64 3, .string s5, .int .i64 0, .int .i64 0]) from (by kernel_rfl)) st (by kernel_rfl) (by kernel_rfl) ?_)
                clear st
                intro w16 st
                refine WO_seg 2 [(7, .int .i64 (IntKind.wrap .i64 (s4 + 1))), (8, .int .i64 0)] (by kernel_rfl) (by kernel_rfl) ?_
                refine WO_end rfl ?_
                refine X_then ?_
                refine W_ret ?_
                refine X_block_ret ?_
                refine X_then_ret ?_
                obtain rfl := Option.some.inj hr
                have ho := hBu2 _ rfl
                subst ho
                have hr := hrKu2
                dsimp only at hr
                refine X_then_ret ?_
                refine X_block_ret ?_
                refine X_then_ret ?_
                refine X_block_ret ?_
                refine X_then_ret ?_
                obtain rfl := Option.some.inj hr
                refine X_ret [.cell 6 42, .tmp 7, .tmp 8] [.agg #[.int .i64 3, .string s5, .int .i64 0, .int .i64 0], .int .i64 (IntKind.wrap .i64 (s4 + 1)), .int .i64 0] rfl (ResAll.cons (ResAt.blk (v := .agg #[.int .i64 3, .string s5, .int .i64 0, .int .i64 0]) (o := 0) (by kernel_rfl) st.head (by kernel_rfl)) (ResAll.cons (ResAt.tmp (by kernel_rfl)) (ResAll.cons (ResAt.tmp (by kernel_rfl)) ResAll.nil))) ?_
                have st := st.tail
                exact ⟨m10, rfl, hm, st⟩
              · intro hc
                rw [if_neg (not_true hc)] at hr
                refine W_skip ?_
                refine X_block ?_
                refine X_then ?_
                refine W_region ?_
                refine WO_seg 3 [(14, .int .i64 (IntKind.wrap .i64 (s4 + 1)))] (by kernel_rfl) (by kernel_rfl) ?_
                refine WO_end rfl ?_
                obtain rfl := Option.some.inj hr
                have hL := hSu2 _ rfl
                have st := st.front1
                have st := st.front1
                exact X_env _ (by kernel_rfl) (X_round k2 (Nat.lt_succ_self _) ⟨IntKind.wrap .i64 (s4 + 1), m10, hL, rfl, hm, st, r1⟩)
            · intro hc
              rw [if_neg (not_true hc)] at hr
              refine W_exit ?_
              refine X_then_exit ?_
              obtain rfl := Option.some.inj hr
              have ho := hBu2 _ rfl
              have st := st.front1
              have st := st.front1
              refine X_then_exit ?_
              exact X_env _ (by kernel_rfl) (K3_u2 _ _ ⟨(), m10, ho, rfl, hm, st, r1⟩)
          · intro K
            clear hrK
            refine WO_seg 5 [(78, .bool (decide (s4 < (ByteArray.size p0 : Int))))] (by kernel_rfl) (by kernel_rfl) ?_
            rcases bcases (decide (s4 < (ByteArray.size p0 : Int))) with hc | hc
            · rw [if_pos hc] at hr
              refine WO_fact (t := 78) (b := true) (decide (s4 < (ByteArray.size p0 : Int))) (by kernel_rfl) hc ?_
              refine WO_seg 2 [(79, .string p0), (80, .int .i64 s4)] (by kernel_rfl) (by kernel_rfl) ?_
              replace hr := bindS hr
              obtain ⟨x3, hx8, hr⟩ := hr
              refine WO_one rfl (One_strIndex (d := 81) (t := 9) (x := (.tmp 79)) (y := (.tmp 80)) (by kernel_rfl) rfl (show evL _ _ = some (.string p0) from (by kernel_rfl)) (show evL _ _ = some (.int .i64 s4) from (by kernel_rfl)) (by kernel_rfl) hx8 ?_)
              refine WO_seg 3 [(84, .bool (decide ((x3.toNat : Int) ≥ 32)))] (by kernel_rfl) (by kernel_rfl) ?_
              rcases bcases (decide ((x3.toNat : Int) ≥ 32)) with hc | hc
              · rw [if_pos hc] at hr
                refine WO_fact (t := 84) (b := true) (decide ((x3.toNat : Int) ≥ 32)) (by kernel_rfl) hc ?_
                refine WO_seg 2 [(85, .string p0), (86, .int .i64 s4)] (by kernel_rfl) (by kernel_rfl) ?_
                replace hr := bindS hr
                obtain ⟨x4, hx9, hr⟩ := hr
                refine WO_one rfl (One_strIndex (d := 87) (t := 9) (x := (.tmp 85)) (y := (.tmp 86)) (by kernel_rfl) rfl (show evL _ _ = some (.string p0) from (by kernel_rfl)) (show evL _ _ = some (.int .i64 s4) from (by kernel_rfl)) (by kernel_rfl) hx9 ?_)
                refine WO_seg 2 [(89, .bool (decide ((x4.toNat : Int) ≤ 126)))] (by kernel_rfl) (by kernel_rfl) ?_
                obtain rfl := Option.some.inj hr
                have st := st.front1
                have st := st.front1
                exact WO_env _ (by kernel_rfl) (K _ _ ⟨m9, rfl, hm, st, r1⟩)
              · rw [if_neg (not_true hc)] at hr
                refine WO_fact (t := 84) (b := false) (decide ((x3.toNat : Int) ≥ 32)) (by kernel_rfl) hc ?_
                refine WO_seg 5 [(89, .bool false)] (by kernel_rfl) (by kernel_rfl) ?_
                obtain rfl := Option.some.inj hr
                have st := st.front1
                have st := st.front1
                exact WO_env _ (by kernel_rfl) (K _ _ ⟨m9, rfl, hm, st, r1⟩)
            · rw [if_neg (not_true hc)] at hr
              refine WO_fact (t := 78) (b := false) (decide (s4 < (ByteArray.size p0 : Int))) (by kernel_rfl) hc ?_
              refine WO_seg 11 [(89, .bool false)] (by kernel_rfl) (by kernel_rfl) ?_
              obtain rfl := Option.some.inj hr
              have st := st.front1
              have st := st.front1
              exact WO_env _ (by kernel_rfl) (K _ _ ⟨m9, rfl, hm, st, r1⟩)
      · intro hc
        rw [if_neg (not_true hc)] at hr
        refine W_seq ?_
        refine W_region ?_
        refine WO_seg 2 [(105, .bool (((mgetQ p2 (x1.toNat : Int)).getD 0) == 8))] (by kernel_rfl) (by kernel_rfl) ?_
        refine WO_end rfl ?_
        refine X_then ?_
        refine W_cond (((mgetQ p2 (x1.toNat : Int)).getD 0) == 8) (by kernel_rfl) ?_ ?_
        · intro hc
          rw [if_pos hc] at hr
          refine W_seq ?_
          refine W_region ?_
          refine WO_seg 3 [(15, .int .i64 (IntKind.wrap .i64 (p1 + 1)))] (by kernel_rfl) (by kernel_rfl) ?_
          refine WO_end rfl ?_
          refine X_then ?_
          refine W_seq ?_
          refine W_seq ?_
          refine W_region ?_
          refine WO_seg 2 [(109, .string p0), (110, .int .i64 p1)] (by kernel_rfl) (by kernel_rfl) ?_
          replace hr := bindS hr
          obtain ⟨s6, hx12, hr⟩ := hr
          refine WO_one rfl (One_strSlice (d := 111) (t := 9) (x := (.tmp 109)) (lo := (some (.tmp 110))) (hi := none) (by kernel_rfl) rfl (show evL _ _ = some (.string p0) from (by kernel_rfl)) (by kernel_rfl) (.inr ⟨_, _, rfl, (show evL _ _ = some (.int .i64 p1) from (by kernel_rfl))⟩) (.inl ⟨rfl, rfl⟩) hx12 ?_)
          replace hr := bindS hr
          obtain ⟨y3, hx13, hr⟩ := hr
          refine WO_one rfl (One_fn 112 86 #[.string s6, .string (⟨#[61, 61]⟩ : ByteArray)] (by kernel_rfl) rfl ?_)
          refine (strings_HasPrefix_ok st hx13).mono ?_
          clear st
          rintro _ w18 ⟨m11, rfl, hle6, st⟩
          refine ⟨_, rfl, ?_⟩
          have hm := Mem.le_trans hm hle6
          have r1 := r1.mono hle6
          refine WO_end rfl ?_
          refine X_then ?_
          replace hr := bindS hr
          obtain ⟨o4, hr, hrKu4⟩ := hr
          refine W_cut .normal (fun L' w' => ∃ (m12 : Mem), L' = [(0, .string p0), (1, .int .i64 p1), (6, .pointer (some ⟨b1, 0, none⟩)), (15, .int .i64 o4)] ∧ m.le m12 ∧ St m12 (.blk b1 (.cells #[.int .i64 0, .string (⟨#[]⟩ : ByteArray), .int .i64 0, .int .i64 0] 42 (0, 0)) :: mpiece q1 es1 ck1 :: own) w' ∧ MapQ (fun n : Int => Value.int .u8 n) (cInt .i64) false m12 q1 es1 ck1 p2) ?_ ?_
          · clear hr st
            have hr := hrKu4
            clear hrKu4
            rintro _ w19 ⟨m12, rfl, hm, st, r1⟩
            refine X_then ?_
            refine W_seq ?_
            refine W_region ?_
            refine WO_seg 3 [(115, .string p0), (116, .int .i64 p1), (117, .int .i64 o4)] (by kernel_rfl) (by kernel_rfl) ?_
            replace hr := bindS hr
            obtain ⟨s7, hx14, hr⟩ := hr
            refine WO_one rfl (One_strSlice (d := 118) (t := 9) (x := (.tmp 115)) (lo := (some (.tmp 116))) (hi := (some (.tmp 117))) (by kernel_rfl) rfl (show evL _ _ = some (.string p0) from (by kernel_rfl)) (by kernel_rfl) (.inr ⟨_, _, rfl, (show evL _ _ = some (.int .i64 p1) from (by kernel_rfl))⟩) (.inr ⟨_, _, rfl, (show evL _ _ = some (.int .i64 o4) from (by kernel_rfl))⟩) hx14 ?_)
            refine WO_seg 2 [(119, .agg #[.int .i64 4, .string s7, .int .i64 0, .int .i64 0]), (120, .int .i64 o4)] (by kernel_rfl) (by kernel_rfl) ?_
            refine WO_one rfl (One_store (t := 42) (x := (.tmp 6)) (y := (.tmp 119)) (v := .agg #[.int .i64 4, .string s7, .int .i64 0, .int .i64 0]) (c' := #[.int .i64 4, .string s7, .int .i64 0, .int .i64 0]) (by kernel_rfl) (show evL _ _ = some (.pointer (some ⟨b1, 0, none⟩)) from (by kernel_rfl)) (show evL _ _ = some (.agg #[.int .i64 4, .string s7, .int .i64 0, .int .i64 0]) from (by kernel_rfl)) st (by kernel_rfl) (by kernel_rfl) ?_)
            clear st
            intro w20 st
            refine WO_seg 2 [(7, .int .i64 o4), (8, .int .i64 0)] (by kernel_rfl) (by kernel_rfl) ?_
            refine WO_end rfl ?_
            refine X_then ?_
            refine W_ret ?_
            refine X_block_ret ?_
            refine X_then_ret ?_
            obtain rfl := Option.some.inj hr
            refine X_ret [.cell 6 42, .tmp 7, .tmp 8] [.agg #[.int .i64 4, .string s7, .int .i64 0, .int .i64 0], .int .i64 o4, .int .i64 0] rfl (ResAll.cons (ResAt.blk (v := .agg #[.int .i64 4, .string s7, .int .i64 0, .int .i64 0]) (o := 0) (by kernel_rfl) st.head (by kernel_rfl)) (ResAll.cons (ResAt.tmp (by kernel_rfl)) (ResAll.cons (ResAt.tmp (by kernel_rfl)) ResAll.nil))) ?_
            have st := st.tail
            exact ⟨m12, rfl, hm, st⟩
          · intro Ku4
            clear hrKu4
            refine W_cond y3 (by kernel_rfl) ?_ ?_
            · intro hc
              rw [if_pos hc] at hr
              refine W_region ?_
              refine WO_seg 3 [(15, .int .i64 (IntKind.wrap .i64 ((IntKind.wrap .i64 (p1 + 1)) + 1)))] (by kernel_rfl) (by kernel_rfl) ?_
              refine WO_end rfl ?_
              obtain rfl := Option.some.inj hr
              have st := st.front1
              have st := st.front1
              exact X_env _ (by kernel_rfl) (Ku4 _ _ ⟨m11, rfl, hm, st, r1⟩)
            · intro hc
              rw [if_neg (not_true hc)] at hr
              refine W_skip ?_
              obtain rfl := Option.some.inj hr
              have st := st.front1
              have st := st.front1
              exact X_env _ (by kernel_rfl) (Ku4 _ _ ⟨m11, rfl, hm, st, r1⟩)
        · intro hc
          rw [if_neg (not_true hc)] at hr
          refine W_skip ?_
          refine X_block ?_
          refine X_then ?_
          refine W_seq ?_
          refine W_region ?_
          refine WO_seg 1 [(121, .agg #[.int .i64 0, .string (⟨#[]⟩ : ByteArray), .int .i64 0, .int .i64 0])] (by kernel_rfl) (by kernel_rfl) ?_
          refine WO_one rfl (One_store (t := 42) (x := (.tmp 6)) (y := (.tmp 121)) (v := .agg #[.int .i64 0, .string (⟨#[]⟩ : ByteArray), .int .i64 0, .int .i64 0]) (c' := #[.int .i64 0, .string (⟨#[]⟩ : ByteArray), .int .i64 0, .int .i64 0]) (by kernel_rfl) (show evL _ _ = some (.pointer (some ⟨b1, 0, none⟩)) from (by kernel_rfl)) (show evL _ _ = some (.agg #[.int .i64 0, .string (⟨#[]⟩ : ByteArray), .int .i64 0, .int .i64 0]) from (by kernel_rfl)) st (by kernel_rfl) (by kernel_rfl) ?_)
          clear st
          intro w21 st
          refine WO_seg 2 [(7, .int .i64 0), (8, .int .i64 9)] (by kernel_rfl) (by kernel_rfl) ?_
          refine WO_end rfl ?_
          refine X_then ?_
          refine W_ret ?_
          obtain rfl := Option.some.inj hr
          refine X_ret [.cell 6 42, .tmp 7, .tmp 8] [.agg #[.int .i64 0, .string (⟨#[]⟩ : ByteArray), .int .i64 0, .int .i64 0], .int .i64 0, .int .i64 9] rfl (ResAll.cons (ResAt.blk (v := .agg #[.int .i64 0, .string (⟨#[]⟩ : ByteArray), .int .i64 0, .int .i64 0]) (o := 0) (by kernel_rfl) st.head (by kernel_rfl)) (ResAll.cons (ResAt.tmp (by kernel_rfl)) (ResAll.cons (ResAt.tmp (by kernel_rfl)) ResAll.nil))) ?_
          have st := st.tail
          exact ⟨m, rfl, hm, st⟩

def lexer_Tokens_L1 (N : Nat) (p0 : ByteArray) (y1 : Option (List (Int × Int))) (s1 : (List (Int × ByteArray × Int × Int)) × Int) : Option (((List (Int × ByteArray × Int × Int)) × Int) ⊕ (((List (Int × ByteArray × Int × Int)) × Int × Int))) :=
  (lexer_span N p0 s1.2 y1 ([5])).bind fun y2 => if (y2 == (ByteArray.size p0 : Int)) = true then ((appendS 40 s1.1 ([(5, (⟨#[]⟩ : ByteArray), 0, y2)])).bind fun l1 => some (.inr (l1, 0, 0))) else ((idxB p0 y2).bind fun x1 => if (((mgetQ y1 (x1.toNat : Int)).getD 0) == 6) = true then ((subB p0 y2 (ByteArray.size p0 : Int)).bind fun s2 => (strings_IndexByte N s2 10).bind fun y3 => (if (decide (y3 < 0)) = true then (some (IntKind.wrap .i64 ((ByteArray.size p0 : Int) - y2))) else (some y3) : Option (Int)).bind fun o1 => some (.inl (s1.1, IntKind.wrap .i64 (y2 + o1)))) else ((lexer_token N p0 y2 y1).bind fun y4 => if (y4.2.2 != 0) = true then (some (.inr (([] : List (Int × ByteArray × Int × Int)), y2, y4.2.2))) else ((appendS 40 s1.1 ([(y4.1.1, y4.1.2.1, y4.1.2.2.1, y2)])).bind fun l2 => some (.inl (l2, y4.2.1)))))

def lexer_Tokens (N : Nat) (p0 : ByteArray) : Option ((List (Int × ByteArray × Int × Int)) × Int × Int) :=
  if (decide ((ByteArray.size p0 : Int) > 16384)) = true then (some (([] : List (Int × ByteArray × Int × Int)), 0, 2)) else ((lexer_kinds N).bind fun y1 => (loopM (lexer_Tokens_L1 N p0 y1) N (([] : List (Int × ByteArray × Int × Int)), 0)).bind fun z => some z)

set_option maxHeartbeats 4000000 in
set_option maxRecDepth 100000 in
theorem lexer_Tokens_ok {N : Nat} {m : Mem} {own : List Piece} {w : World} {p0 : ByteArray} {r : (List (Int × ByteArray × Int × Int)) × Int × Int} (st : St m (own) w) (hr : lexer_Tokens N p0 = some r) : Calls Go.Proofs.Tryd.prog 24 #[.string p0] w fun e w' => ∃ (ra1 : Option Addr) (rc1 : Nat) (m' : Mem), e = .returned (.tuple #[.slice ra1 (List.length r.1) rc1, .int .i64 r.2.1, .int .i64 r.2.2]) ∧ m.le m' ∧ St m' (.room ra1 (List.length r.1) rc1 42 4 :: own) w' ∧ RepS (cPair (cInt .i64) (cPair cStr (cPair (cInt .i64) (cInt .i64)))) m' ra1 rc1 r.1 := by
  unfold lexer_Tokens at hr
  have hm := m.le_refl
  refine W_calls Go.Proofs.Tryd.func24 rfl Go.Proofs.Tryd.ntmps24 [(0, .string p0)] (by kernel_rfl) rfl ?_
  refine W_seq ?_
  refine W_region ?_
  refine WO_seg 3 [(2, .slice none (List.length ([] : List (Int × ByteArray × Int × Int))) 0)] (by kernel_rfl) (by kernel_rfl) ?_
  refine WO_end rfl ?_
  refine X_then ?_
  refine W_scope ?_
  refine W_seq ?_
  refine W_seq ?_
  refine W_region ?_
  refine WO_seg 3 [(13, .bool (decide ((ByteArray.size p0 : Int) > 16384)))] (by kernel_rfl) (by kernel_rfl) ?_
  refine WO_end rfl ?_
  refine X_then ?_
  refine W_cond (decide ((ByteArray.size p0 : Int) > 16384)) (by kernel_rfl) ?_ ?_
  · intro hc
    rw [if_pos hc] at hr
    refine W_seq ?_
    refine W_region ?_
    refine WO_seg 3 [(2, .slice none (List.length ([] : List (Int × ByteArray × Int × Int))) 0), (3, .int .i64 0), (4, .int .i64 2)] (by kernel_rfl) (by kernel_rfl) ?_
    refine WO_end rfl ?_
    refine X_then ?_
    refine W_ret ?_
    refine X_then_ret ?_
    refine X_scope_ret ?_
    obtain rfl := Option.some.inj hr
    refine X_ret [.tmp 2, .tmp 3, .tmp 4] [.slice none (List.length ([] : List (Int × ByteArray × Int × Int))) 0, .int .i64 0, .int .i64 2] rfl (ResAll.cons (ResAt.tmp (by kernel_rfl)) (ResAll.cons (ResAt.tmp (by kernel_rfl)) (ResAll.cons (ResAt.tmp (by kernel_rfl)) ResAll.nil))) ?_
    have st := st.nilroom 42 4
    exact ⟨none, 0, m, rfl, hm, st, (RepS.nil _ _)⟩
  · intro hc
    rw [if_neg (not_true hc)] at hr
    refine W_skip ?_
    refine X_then ?_
    refine W_seq ?_
    refine W_region ?_
    replace hr := bindS hr
    obtain ⟨y1, hx1, hr⟩ := hr
    refine WO_one rfl (One_fn 14 49 #[] (by kernel_rfl) rfl ?_)
    refine (lexer_kinds_ok st hx1).mono ?_
    clear st
    rintro _ w1 ⟨q1, es1, ck1, m1, rfl, hle1, st, r1⟩
    refine ⟨_, rfl, ?_⟩
    have hm := Mem.le_trans hm hle1
    refine WO_seg 1 [(5, .map q1)] (by kernel_rfl) (by kernel_rfl) ?_
    refine WO_end rfl ?_
    refine X_then ?_
    refine W_seq ?_
    refine W_region ?_
    refine WO_seg 1 [(6, .int .i64 0)] (by kernel_rfl) (by kernel_rfl) ?_
    refine WO_end rfl ?_
    refine X_then ?_
    refine W_seq ?_
    refine W_label ?_
    refine X_then ?_
    refine W_block ?_
    replace hr := bindS hr
    obtain ⟨out1, hr, hrKu1⟩ := hr
    have st := st.nilroom 42 4
    have st := st.front1
    refine W_env _ (by kernel_rfl) (W_loop (fun k1 L' w' => ∃ (s1 : (List (Int × ByteArray × Int × Int)) × Int) (a1 : Option Addr) (c1 : Nat) (m2 : Mem), loopM (lexer_Tokens_L1 N p0 y1) k1 s1 = some out1 ∧ L' = [(0, .string p0), (2, .slice a1 (List.length s1.1) c1), (5, .map q1), (6, .int .i64 s1.2)] ∧ m.le m2 ∧ St m2 (mpiece q1 es1 ck1 :: .room a1 (List.length s1.1) c1 42 4 :: own) w' ∧ RepS (cPair (cInt .i64) (cPair cStr (cPair (cInt .i64) (cInt .i64)))) m2 a1 c1 s1.1 ∧ MapQ (fun n : Int => Value.int .u8 n) (cInt .i64) false m2 q1 es1 ck1 y1) N ⟨(([] : List (Int × ByteArray × Int × Int)), 0), none, 0, m1, hr, rfl, hm, st, (RepS.nil _ _), r1⟩ ?_)
    clear st hr
    rintro k1 _ w2 ⟨s1, a1, c1, m2, hL, rfl, hm, st, r2, r1⟩
    rcases k1 with _ | k1
    · exact loopM_zero hL
    · obtain ⟨qu1, hr, hSu1, hBu1⟩ := loopM_succ hL
      clear hL
      unfold lexer_Tokens_L1 at hr
      refine W_block ?_
      refine W_seq ?_
      refine W_region ?_
      refine WO_seg 3 [(15, .string p0), (16, .int .i64 s1.2), (17, .map q1)] (by kernel_rfl) (by kernel_rfl) ?_
      refine WO_one rfl (One_buildSlice (d := 18) (t := 26) (e := 3) (len := 1) (parts := #[(0, (.const (.int .i64 5)))]) (cInt .i64) (xs := [5]) [.int .i64 5] (by kernel_rfl) rfl (fun _ => buildCells_run (by kernel_rfl) _) rfl rfl st ⟨[.int .i64 5], _, rfl, rfl, rfl⟩ ?_)
      clear st
      intro b1 m3 w3 hle2 st r3
      have hm := Mem.le_trans hm hle2
      have r2 := r2.mono hle2
      have r1 := r1.mono hle2
      have st := st.front1
      replace hr := bindS hr
      obtain ⟨y2, hx2, hr⟩ := hr
      refine WO_one rfl (One_fn 19 50 #[.string p0, .int .i64 s1.2, .map q1, .slice (some ⟨b1, 0, none⟩) (List.length ([5])) 1] (by kernel_rfl) rfl ?_)
      refine (lexer_span_ok st r1 r3 hx2).mono ?_
      clear st
      rintro _ w4 ⟨m4, rfl, hle3, st⟩
      refine ⟨_, rfl, ?_⟩
      have hm := Mem.le_trans hm hle3
      have r2 := r2.mono hle3
      have r3 := r3.mono hle3
      have r1 := r1.mono hle3
      refine WO_seg 1 [(6, .int .i64 y2)] (by kernel_rfl) (by kernel_rfl) ?_
      refine WO_end rfl ?_
      have st := st.front1
      have st := st.tail
      refine X_then ?_
      refine W_seq ?_
      refine W_block ?_
      refine W_seq ?_
      refine W_region ?_
      refine WO_seg 5 [(20, .bool (y2 == (ByteArray.size p0 : Int)))] (by kernel_rfl) (by kernel_rfl) ?_
      refine WO_end rfl ?_
      refine X_then ?_
      refine W_cond (y2 == (ByteArray.size p0 : Int)) (by kernel_rfl) ?_ ?_
      · intro hc
        rw [if_pos hc] at hr
        refine W_seq ?_
        refine W_region ?_
        refine WO_seg 3 [(25, .slice a1 (List.length s1.1) c1), (27, .agg #[.int .i64 5, .string (⟨#[]⟩ : ByteArray), .int .i64 0, .int .i64 y2])] (by kernel_rfl) (by kernel_rfl) ?_
        refine WO_one rfl (One_buildSlice (d := 28) (t := 37) (e := 42) (len := 1) (parts := #[(0, (.tmp 27))]) (cPair (cInt .i64) (cPair cStr (cPair (cInt .i64) (cInt .i64)))) (xs := [(5, (⟨#[]⟩ : ByteArray), 0, y2)]) [.int .i64 5, .string (⟨#[]⟩ : ByteArray), .int .i64 0, .int .i64 y2] (by kernel_rfl) rfl (fun _ => buildCells_run (by kernel_rfl) _) rfl rfl st ⟨[.int .i64 5, .string (⟨#[]⟩ : ByteArray), .int .i64 0, .int .i64 y2], _, rfl, ⟨_, _, rfl, rfl, ⟨_, _, rfl, rfl, ⟨_, _, rfl, rfl, rfl⟩⟩⟩, rfl⟩ ?_)
        clear st
        intro b2 m5 w5 hle4 st r4
        have hm := Mem.le_trans hm hle4
        have r2 := r2.mono hle4
        have r1 := r1.mono hle4
        have st := st.front2
        replace hr := bindS hr
        obtain ⟨l1, hx3, hr⟩ := hr
        refine WO_one rfl (One_append (d := 29) (t := 37) (u := 37) (e := 42) (by_ := 40) (x := (.tmp 25)) (y := (.tmp 28)) (cPair (cInt .i64) (cPair cStr (cPair (cInt .i64) (cInt .i64)))) (by kernel_rfl) rfl (show evL _ _ = some (.slice a1 (List.length s1.1) c1) from (by kernel_rfl)) (show evL _ _ = some (.slice (some ⟨b2, 0, none⟩) (List.length ([(5, (⟨#[]⟩ : ByteArray), 0, y2)])) 1) from (by kernel_rfl)) st (by kernel_rfl) (.inl (by kernel_rfl)) r2 r4.src hx3 ?_)
        clear st
        intro a2 c2 m6 w6 hle5 st r5
        have hm := Mem.le_trans hm hle5
        have r2 := r2.mono hle5
        have r4 := r4.mono hle5
        have r1 := r1.mono hle5
        refine WO_seg 3 [(2, .slice a2 (List.length l1) c2), (3, .int .i64 0), (4, .int .i64 0)] (by kernel_rfl) (by kernel_rfl) ?_
        refine WO_end rfl ?_
        have st := st.front1
        have st := st.tail
        refine X_then ?_
        refine W_ret ?_
        refine X_block_ret ?_
        refine X_then_ret ?_
        refine X_block_ret ?_
        obtain rfl := Option.some.inj hr
        have ho := hBu1 _ rfl
        subst ho
        have hr := hrKu1
        refine X_then_ret ?_
        refine X_block_ret ?_
        refine X_scope_ret ?_
        obtain rfl := Option.some.inj hr
        refine X_ret [.tmp 2, .tmp 3, .tmp 4] [.slice a2 (List.length l1) c2, .int .i64 0, .int .i64 0] rfl (ResAll.cons (ResAt.tmp (by kernel_rfl)) (ResAll.cons (ResAt.tmp (by kernel_rfl)) (ResAll.cons (ResAt.tmp (by kernel_rfl)) ResAll.nil))) ?_
        have st := st.front1
        have st := st.tail
        exact ⟨a2, c2, m6, rfl, hm, st, r5⟩
      · intro hc
        rw [if_neg (not_true hc)] at hr
        refine W_seq ?_
        refine W_region ?_
        refine WO_seg 3 [(31, .map q1), (32, .string p0), (33, .int .i64 y2)] (by kernel_rfl) (by kernel_rfl) ?_
        replace hr := bindS hr
        obtain ⟨x1, hx4, hr⟩ := hr
        refine WO_one rfl (One_strIndex (d := 34) (t := 9) (x := (.tmp 32)) (y := (.tmp 33)) (by kernel_rfl) rfl (show evL _ _ = some (.string p0) from (by kernel_rfl)) (show evL _ _ = some (.int .i64 y2) from (by kernel_rfl)) (by kernel_rfl) hx4 ?_)
        refine WO_one rfl (One_lookup (ek := (fun n : Int => Value.int .u8 n)) (c := (cInt .i64)) (agg := false) (k := (x1.toNat : Int)) (zx := 0) (zcs := [.int .i64 0]) (z := (.int .i64 0)) (kt := 5) (et := 3) (d := 35) (t := 68) (x := (.tmp 31)) (y := (.tmp 34)) (ok := false) (by kernel_rfl) rfl (show evL _ _ = some (.map q1) from (by kernel_rfl)) (show evL _ _ = some (.int .u8 (x1.toNat : Int)) from (by kernel_rfl)) (by kernel_rfl) (keyInt (by kernel_rfl)) st.head r1 rfl rfl ?_)
        rintro cs1 rfl
        refine WO_seg 2 [(30, .bool (((mgetQ y1 (x1.toNat : Int)).getD 0) == 6))] (by kernel_rfl) (by kernel_rfl) ?_
        refine WO_end rfl ?_
        refine X_then ?_
        refine W_cond (((mgetQ y1 (x1.toNat : Int)).getD 0) == 6) (by kernel_rfl) ?_ ?_
        · intro hc
          rw [if_pos hc] at hr
          refine W_seq ?_
          refine W_region ?_
          refine WO_seg 2 [(37, .string p0), (38, .int .i64 y2)] (by kernel_rfl) (by kernel_rfl) ?_
          replace hr := bindS hr
          obtain ⟨s2, hx5, hr⟩ := hr
          refine WO_one rfl (One_strSlice (d := 39) (t := 9) (x := (.tmp 37)) (lo := (some (.tmp 38))) (hi := none) (by kernel_rfl) rfl (show evL _ _ = some (.string p0) from (by kernel_rfl)) (by kernel_rfl) (.inr ⟨_, _, rfl, (show evL _ _ = some (.int .i64 y2) from (by kernel_rfl))⟩) (.inl ⟨rfl, rfl⟩) hx5 ?_)
          replace hr := bindS hr
          obtain ⟨y3, hx6, hr⟩ := hr
          refine WO_one rfl (One_fn 40 54 #[.string s2, .int .u8 10] (by kernel_rfl) rfl ?_)
          refine (strings_IndexByte_ok st hx6).mono ?_
          clear st
          rintro _ w7 ⟨m7, rfl, hle6, st⟩
          refine ⟨_, rfl, ?_⟩
          have hm := Mem.le_trans hm hle6
          have r2 := r2.mono hle6
          have r1 := r1.mono hle6
          refine WO_seg 1 [(7, .int .i64 y3)] (by kernel_rfl) (by kernel_rfl) ?_
          refine WO_end rfl ?_
          refine X_then ?_
          refine W_seq ?_
          refine W_seq ?_
          refine W_region ?_
          refine WO_seg 2 [(42, .bool (decide (y3 < 0)))] (by kernel_rfl) (by kernel_rfl) ?_
          refine WO_end rfl ?_
          refine X_then ?_
          replace hr := bindS hr
          obtain ⟨o1, hr, hrKu2⟩ := hr
          refine W_cut .normal (fun L' w' => ∃ (m8 : Mem), L' = [(0, .string p0), (2, .slice a1 (List.length s1.1) c1), (5, .map q1), (6, .int .i64 y2), (7, .int .i64 o1)] ∧ m.le m8 ∧ St m8 (mpiece q1 es1 ck1 :: .room a1 (List.length s1.1) c1 42 4 :: own) w' ∧ RepS (cPair (cInt .i64) (cPair cStr (cPair (cInt .i64) (cInt .i64)))) m8 a1 c1 s1.1 ∧ MapQ (fun n : Int => Value.int .u8 n) (cInt .i64) false m8 q1 es1 ck1 y1) ?_ ?_
          · clear hr st
            have hr := hrKu2
            clear hrKu2
            rintro _ w8 ⟨m8, rfl, hm, st, r2, r1⟩
            refine X_then ?_
            refine W_seq ?_
            refine W_region ?_
            refine WO_seg 4 [(6, .int .i64 (IntKind.wrap .i64 (y2 + o1)))] (by kernel_rfl) (by kernel_rfl) ?_
            refine WO_end rfl ?_
            refine X_then ?_
            refine W_exit ?_
            refine X_block_ne rfl ?_
            refine X_then_exit ?_
            refine X_block_eq ?_
            obtain rfl := Option.some.inj hr
            have hL := hSu1 _ rfl
            have st := st.front1
            have st := st.front1
            exact X_env _ (by kernel_rfl) (X_round k1 (Nat.lt_succ_self _) ⟨(s1.1, IntKind.wrap .i64 (y2 + o1)), a1, c1, m8, hL, rfl, hm, st, r2, r1⟩)
          · intro Ku2
            clear hrKu2
            refine W_cond (decide (y3 < 0)) (by kernel_rfl) ?_ ?_
            · intro hc
              rw [if_pos hc] at hr
              refine W_region ?_
              refine WO_seg 5 [(7, .int .i64 (IntKind.wrap .i64 ((ByteArray.size p0 : Int) - y2)))] (by kernel_rfl) (by kernel_rfl) ?_
              refine WO_end rfl ?_
              obtain rfl := Option.some.inj hr
              have st := st.front1
              have st := st.front1
              exact X_env _ (by kernel_rfl) (Ku2 _ _ ⟨m7, rfl, hm, st, r2, r1⟩)
            · intro hc
              rw [if_neg (not_true hc)] at hr
              refine W_skip ?_
              obtain rfl := Option.some.inj hr
              have st := st.front1
              have st := st.front1
              exact X_env _ (by kernel_rfl) (Ku2 _ _ ⟨m7, rfl, hm, st, r2, r1⟩)
        · intro hc
          rw [if_neg (not_true hc)] at hr
          refine W_skip ?_
          refine X_block ?_
          refine X_then ?_
          refine W_seq ?_
          refine W_region ?_
          refine WO_seg 3 [(51, .string p0), (52, .int .i64 y2), (53, .map q1)] (by kernel_rfl) (by kernel_rfl) ?_
          replace hr := bindS hr
          obtain ⟨y4, hx7, hr⟩ := hr
          refine WO_one rfl (One_fn 54 55 #[.string p0, .int .i64 y2, .map q1] (by kernel_rfl) rfl ?_)
          refine (lexer_token_ok st r1 hx7).mono ?_
          clear st
          rintro _ w9 ⟨m9, rfl, hle7, st⟩
          refine ⟨_, rfl, ?_⟩
          have hm := Mem.le_trans hm hle7
          have r2 := r2.mono hle7
          have r1 := r1.mono hle7
          refine WO_seg 4 [(55, .agg #[.int .i64 y4.1.1, .string y4.1.2.1, .int .i64 y4.1.2.2.1, .int .i64 y4.1.2.2.2]), (56, .int .i64 y4.2.1), (57, .int .i64 y4.2.2)] (by kernel_rfl) (by kernel_rfl) ?_
          refine WO_one rfl (One_alloc (d := 8) (e := 42) (.agg #[.int .i64 0, .string (⟨#[]⟩ : ByteArray), .int .i64 0, .int .i64 0]) (by kernel_rfl) rfl (by kernel_rfl) st ?_)
          clear st
          intro b3 w10 st
          refine WO_one rfl (One_store (t := 42) (x := (.tmp 8)) (y := (.tmp 55)) (v := .agg #[.int .i64 y4.1.1, .string y4.1.2.1, .int .i64 y4.1.2.2.1, .int .i64 y4.1.2.2.2]) (c' := #[.int .i64 y4.1.1, .string y4.1.2.1, .int .i64 y4.1.2.2.1, .int .i64 y4.1.2.2.2]) (by kernel_rfl) (show evL _ _ = some (.pointer (some ⟨b3, 0, none⟩)) from (by kernel_rfl)) (show evL _ _ = some (.agg #[.int .i64 y4.1.1, .string y4.1.2.1, .int .i64 y4.1.2.2.1, .int .i64 y4.1.2.2.2]) from (by kernel_rfl)) st (by kernel_rfl) (by kernel_rfl) ?_)
          clear st
          intro w11 st
          refine WO_seg 2 [(9, .int .i64 y4.2.1), (10, .int .i64 y4.2.2)] (by kernel_rfl) (by kernel_rfl) ?_
          refine WO_end rfl ?_
          refine X_then ?_
          refine W_seq ?_
          refine W_seq ?_
          refine W_region ?_
          refine WO_seg 2 [(59, .bool (y4.2.2 != 0))] (by kernel_rfl) (by kernel_rfl) ?_
          refine WO_end rfl ?_
          refine X_then ?_
          refine W_cond (y4.2.2 != 0) (by kernel_rfl) ?_ ?_
          · intro hc
            rw [if_pos hc] at hr
            refine W_seq ?_
            refine W_region ?_
            refine WO_seg 5 [(2, .slice none (List.length ([] : List (Int × ByteArray × Int × Int))) 0), (3, .int .i64 y2), (4, .int .i64 y4.2.2)] (by kernel_rfl) (by kernel_rfl) ?_
            refine WO_end rfl ?_
            have st := st.front2
            have st := st.tail
            refine X_then ?_
            refine W_ret ?_
            refine X_then_ret ?_
            refine X_block_ret ?_
            obtain rfl := Option.some.inj hr
            have ho := hBu1 _ rfl
            subst ho
            have hr := hrKu1
            refine X_then_ret ?_
            refine X_block_ret ?_
            refine X_scope_ret ?_
            obtain rfl := Option.some.inj hr
            refine X_ret [.tmp 2, .tmp 3, .tmp 4] [.slice none (List.length ([] : List (Int × ByteArray × Int × Int))) 0, .int .i64 y2, .int .i64 y4.2.2] rfl (ResAll.cons (ResAt.tmp (by kernel_rfl)) (ResAll.cons (ResAt.tmp (by kernel_rfl)) (ResAll.cons (ResAt.tmp (by kernel_rfl)) ResAll.nil))) ?_
            have st := st.nilroom 42 4
            have st := st.front1
            have st := st.tail
            have st := st.front1
            have st := st.tail
            exact ⟨none, 0, m9, rfl, hm, st, (RepS.nil _ _)⟩
          · intro hc
            rw [if_neg (not_true hc)] at hr
            refine W_skip ?_
            refine X_then ?_
            refine W_seq ?_
            refine W_region ?_
            refine WO_seg 2 [(62, .int .i64 y2), (63, .pointer (some ⟨b3, 3, none⟩))] (by kernel_rfl) (by kernel_rfl) ?_
            refine WO_one rfl (One_store (t := 3) (x := (.tmp 63)) (y := (.tmp 62)) (v := .int .i64 y2) (c' := #[.int .i64 y4.1.1, .string y4.1.2.1, .int .i64 y4.1.2.2.1, .int .i64 y2]) (by kernel_rfl) (show evL _ _ = some (.pointer (some ⟨b3, 3, none⟩)) from (by kernel_rfl)) (show evL _ _ = some (.int .i64 y2) from (by kernel_rfl)) st (by kernel_rfl) (by kernel_rfl) ?_)
            clear st
            intro w12 st
            refine WO_end rfl ?_
            refine X_then ?_
            refine W_region ?_
            refine WO_seg 1 [(64, .slice a1 (List.length s1.1) c1)] (by kernel_rfl) (by kernel_rfl) ?_
            refine WO_one rfl (One_load_own (d := 65) (t := 42) (x := (.tmp 8)) (.agg #[.int .i64 y4.1.1, .string y4.1.2.1, .int .i64 y4.1.2.2.1, .int .i64 y2]) (by kernel_rfl) rfl (show evL _ _ = some (.pointer (some ⟨b3, 0, none⟩)) from (by kernel_rfl)) st.head (by kernel_rfl) ?_)
            refine WO_one rfl (One_buildSlice (d := 66) (t := 37) (e := 42) (len := 1) (parts := #[(0, (.tmp 65))]) (cPair (cInt .i64) (cPair cStr (cPair (cInt .i64) (cInt .i64)))) (xs := [(y4.1.1, y4.1.2.1, y4.1.2.2.1, y2)]) [.int .i64 y4.1.1, .string y4.1.2.1, .int .i64 y4.1.2.2.1, .int .i64 y2] (by kernel_rfl) rfl (fun _ => buildCells_run (by kernel_rfl) _) rfl rfl st ⟨[.int .i64 y4.1.1, .string y4.1.2.1, .int .i64 y4.1.2.2.1, .int .i64 y2], _, rfl, ⟨_, _, rfl, rfl, ⟨_, _, rfl, rfl, ⟨_, _, rfl, rfl, rfl⟩⟩⟩, rfl⟩ ?_)
            clear st
            intro b4 m10 w13 hle8 st r6
            have hm := Mem.le_trans hm hle8
            have r2 := r2.mono hle8
            have r1 := r1.mono hle8
            have st := st.front3
            replace hr := bindS hr
            obtain ⟨l2, hx8, hr⟩ := hr
            refine WO_one rfl (One_append (d := 67) (t := 37) (u := 37) (e := 42) (by_ := 40) (x := (.tmp 64)) (y := (.tmp 66)) (cPair (cInt .i64) (cPair cStr (cPair (cInt .i64) (cInt .i64)))) (by kernel_rfl) rfl (show evL _ _ = some (.slice a1 (List.length s1.1) c1) from (by kernel_rfl)) (show evL _ _ = some (.slice (some ⟨b4, 0, none⟩) (List.length ([(y4.1.1, y4.1.2.1, y4.1.2.2.1, y2)])) 1) from (by kernel_rfl)) st (by kernel_rfl) (.inl (by kernel_rfl)) r2 r6.src hx8 ?_)
            clear st
            intro a3 c3 m11 w14 hle9 st r7
            have hm := Mem.le_trans hm hle9
            have r2 := r2.mono hle9
            have r6 := r6.mono hle9
            have r1 := r1.mono hle9
            refine WO_seg 3 [(2, .slice a3 (List.length l2) c3), (6, .int .i64 y4.2.1)] (by kernel_rfl) (by kernel_rfl) ?_
            refine WO_end rfl ?_
            have st := st.front1
            have st := st.tail
            refine X_block ?_
            obtain rfl := Option.some.inj hr
            have hL := hSu1 _ rfl
            have st := st.front1
            have st := st.tail
            have st := st.front1
            exact X_env _ (by kernel_rfl) (X_round k1 (Nat.lt_succ_self _) ⟨(l2, y4.2.1), a3, c3, m11, hL, rfl, hm, st, r7, r1⟩)

def unicode_utf8_decodeRuneInStringSlow (N : Nat) (p0 : ByteArray) : Option (Int × Int) :=
  if (decide ((ByteArray.size p0 : Int) < 1)) = true then (some (65533, 0)) else none

set_option maxHeartbeats 4000000 in
set_option maxRecDepth 100000 in
theorem unicode_utf8_decodeRuneInStringSlow_ok {N : Nat} {m : Mem} {own : List Piece} {w : World} {p0 : ByteArray} {r : Int × Int} (st : St m (own) w) (hr : unicode_utf8_decodeRuneInStringSlow N p0 = some r) : Calls Go.Proofs.Tryd.prog 126 #[.string p0] w fun e w' => ∃ (m' : Mem), e = .returned (.tuple #[.int .i32 r.1, .int .i64 r.2]) ∧ m.le m' ∧ St m' (own) w' := by
  unfold unicode_utf8_decodeRuneInStringSlow at hr
  have hm := m.le_refl
  refine W_calls Go.Proofs.Tryd.func126 rfl Go.Proofs.Tryd.ntmps126 [(0, .string p0)] (by kernel_rfl) rfl ?_
  refine W_seq ?_
  refine W_region ?_
  refine WO_seg 2 [] (by kernel_rfl) (by kernel_rfl) ?_
  refine WO_end rfl ?_
  refine X_then ?_
  refine W_seq ?_
  refine W_region ?_
  refine WO_seg 3 [(4, .int .i64 (ByteArray.size p0 : Int))] (by kernel_rfl) (by kernel_rfl) ?_
  refine WO_end rfl ?_
  refine X_then ?_
  refine W_seq ?_
  refine W_seq ?_
  refine W_region ?_
  refine WO_seg 2 [(16, .bool (decide ((ByteArray.size p0 : Int) < 1)))] (by kernel_rfl) (by kernel_rfl) ?_
  refine WO_end rfl ?_
  refine X_then ?_
  refine W_cond (decide ((ByteArray.size p0 : Int) < 1)) (by kernel_rfl) ?_ ?_
  · intro hc
    rw [if_pos hc] at hr
    refine W_seq ?_
    refine W_region ?_
    refine WO_seg 2 [(2, .int .i32 65533), (3, .int .i64 0)] (by kernel_rfl) (by kernel_rfl) ?_
    refine WO_end rfl ?_
    refine X_then ?_
    refine W_ret ?_
    refine X_then_ret ?_
    obtain rfl := Option.some.inj hr
    refine X_ret [.tmp 2, .tmp 3] [.int .i32 65533, .int .i64 0] rfl (ResAll.cons (ResAt.tmp (by kernel_rfl)) (ResAll.cons (ResAt.tmp (by kernel_rfl)) ResAll.nil)) ?_
    exact ⟨m, rfl, hm, st⟩
  · intro hc
    rw [if_neg (not_true hc)] at hr
    cases hr

def unicode_utf8_DecodeRuneInString (N : Nat) (p0 : ByteArray) : Option (Int × Int) :=
  (if (!(p0.toList == (⟨#[]⟩ : ByteArray).toList)) = true then ((idxB p0 0).bind fun x1 => some (decide ((x1.toNat : Int) < 128))) else (some false) : Option (Bool)).bind fun o1 => if o1 = true then ((idxB p0 0).bind fun x2 => some (IntKind.wrap .i32 (x2.toNat : Int), 1)) else ((unicode_utf8_decodeRuneInStringSlow N p0).bind fun y1 => some (y1.1, y1.2))

set_option maxHeartbeats 4000000 in
set_option maxRecDepth 100000 in
theorem unicode_utf8_DecodeRuneInString_ok {N : Nat} {m : Mem} {own : List Piece} {w : World} {p0 : ByteArray} {r : Int × Int} (st : St m (own) w) (hr : unicode_utf8_DecodeRuneInString N p0 = some r) : Calls Go.Proofs.Tryd.prog 117 #[.string p0] w fun e w' => ∃ (m' : Mem), e = .returned (.tuple #[.int .i32 r.1, .int .i64 r.2]) ∧ m.le m' ∧ St m' (own) w' := by
  unfold unicode_utf8_DecodeRuneInString at hr
  have hm := m.le_refl
  refine W_calls Go.Proofs.Tryd.func117 rfl Go.Proofs.Tryd.ntmps117 [(0, .string p0)] (by kernel_rfl) rfl ?_
  refine W_seq ?_
  refine W_region ?_
  refine WO_seg 2 [] (by kernel_rfl) (by kernel_rfl) ?_
  refine WO_end rfl ?_
  refine X_then ?_
  refine W_seq ?_
  refine W_seq ?_
  refine W_region ?_
  replace hr := bindS hr
  obtain ⟨o1, hr, hrK⟩ := hr
  refine WO_cut (j := 7) (fun L' w' => ∃ (m1 : Mem), L' = [(0, .string p0), (10, .bool o1)] ∧ m.le m1 ∧ St m1 (own) w') ?_ ?_
  · clear hr st
    have hr := hrK
    clear hrK
    rintro _ w1 ⟨m1, rfl, hm, st⟩
    refine WO_end rfl ?_
    refine X_then ?_
    refine W_cond o1 (by kernel_rfl) ?_ ?_
    · intro hc
      rw [if_pos hc] at hr
      refine W_seq ?_
      refine W_region ?_
      refine WO_seg 1 [(11, .string p0)] (by kernel_rfl) (by kernel_rfl) ?_
      replace hr := bindS hr
      obtain ⟨x2, hx2, hr⟩ := hr
      refine WO_one rfl (One_strIndex (d := 12) (t := 9) (x := (.tmp 11)) (y := (.const (.int .i64 0))) (by kernel_rfl) rfl (show evL _ _ = some (.string p0) from (by kernel_rfl)) (show evL _ _ = some (.int .i64 0) from (by kernel_rfl)) (by kernel_rfl) hx2 ?_)
      refine WO_seg 3 [(2, .int .i32 (IntKind.wrap .i32 (x2.toNat : Int))), (3, .int .i64 1)] (by kernel_rfl) (by kernel_rfl) ?_
      refine WO_end rfl ?_
      refine X_then ?_
      refine W_ret ?_
      refine X_then_ret ?_
      obtain rfl := Option.some.inj hr
      refine X_ret [.tmp 2, .tmp 3] [.int .i32 (IntKind.wrap .i32 (x2.toNat : Int)), .int .i64 1] rfl (ResAll.cons (ResAt.tmp (by kernel_rfl)) (ResAll.cons (ResAt.tmp (by kernel_rfl)) ResAll.nil)) ?_
      exact ⟨m1, rfl, hm, st⟩
    · intro hc
      rw [if_neg (not_true hc)] at hr
      refine W_region ?_
      refine WO_seg 1 [(15, .string p0)] (by kernel_rfl) (by kernel_rfl) ?_
      replace hr := bindS hr
      obtain ⟨y1, hx3, hr⟩ := hr
      refine WO_one rfl (One_fn 16 126 #[.string p0] (by kernel_rfl) rfl ?_)
      refine (unicode_utf8_decodeRuneInStringSlow_ok st hx3).mono ?_
      clear st
      rintro _ w2 ⟨m2, rfl, hle1, st⟩
      refine ⟨_, rfl, ?_⟩
      have hm := Mem.le_trans hm hle1
      refine WO_seg 5 [(2, .int .i32 y1.1), (3, .int .i64 y1.2)] (by kernel_rfl) (by kernel_rfl) ?_
      refine WO_end rfl ?_
      refine X_then ?_
      refine W_ret ?_
      obtain rfl := Option.some.inj hr
      refine X_ret [.tmp 2, .tmp 3] [.int .i32 y1.1, .int .i64 y1.2] rfl (ResAll.cons (ResAt.tmp (by kernel_rfl)) (ResAll.cons (ResAt.tmp (by kernel_rfl)) ResAll.nil)) ?_
      exact ⟨m2, rfl, hm, st⟩
  · intro K
    clear hrK
    refine WO_seg 3 [(6, .bool (!(p0.toList == (⟨#[]⟩ : ByteArray).toList)))] (by kernel_rfl) (by kernel_rfl) ?_
    rcases bcases (!(p0.toList == (⟨#[]⟩ : ByteArray).toList)) with hc | hc
    · rw [if_pos hc] at hr
      refine WO_fact (t := 6) (b := true) (!(p0.toList == (⟨#[]⟩ : ByteArray).toList)) (by kernel_rfl) hc ?_
      refine WO_seg 1 [(7, .string p0)] (by kernel_rfl) (by kernel_rfl) ?_
      replace hr := bindS hr
      obtain ⟨x1, hx1, hr⟩ := hr
      refine WO_one rfl (One_strIndex (d := 8) (t := 9) (x := (.tmp 7)) (y := (.const (.int .i64 0))) (by kernel_rfl) rfl (show evL _ _ = some (.string p0) from (by kernel_rfl)) (show evL _ _ = some (.int .i64 0) from (by kernel_rfl)) (by kernel_rfl) hx1 ?_)
      refine WO_seg 2 [(10, .bool (decide ((x1.toNat : Int) < 128)))] (by kernel_rfl) (by kernel_rfl) ?_
      obtain rfl := Option.some.inj hr
      exact WO_env _ (by kernel_rfl) (K _ _ ⟨m, rfl, hm, st⟩)
    · rw [if_neg (not_true hc)] at hr
      refine WO_fact (t := 6) (b := false) (!(p0.toList == (⟨#[]⟩ : ByteArray).toList)) (by kernel_rfl) hc ?_
      refine WO_seg 4 [(10, .bool false)] (by kernel_rfl) (by kernel_rfl) ?_
      obtain rfl := Option.some.inj hr
      exact WO_env _ (by kernel_rfl) (K _ _ ⟨m, rfl, hm, st⟩)

def internal_bytealg_Cutover (N : Nat) (p0 : Int) : Option (Int) :=
  some (IntKind.wrap .i64 (Int.tdiv (IntKind.wrap .i64 (p0 + 16)) 8))

set_option maxHeartbeats 4000000 in
set_option maxRecDepth 100000 in
theorem internal_bytealg_Cutover_ok {N : Nat} {m : Mem} {own : List Piece} {w : World} {p0 : Int} {r : Int} (st : St m (own) w) (hr : internal_bytealg_Cutover N p0 = some r) : Calls Go.Proofs.Tryd.prog 128 #[.int .i64 p0] w fun e w' => ∃ (m' : Mem), e = .returned (.int .i64 r) ∧ m.le m' ∧ St m' (own) w' := by
  unfold internal_bytealg_Cutover at hr
  have hm := m.le_refl
  refine W_calls Go.Proofs.Tryd.func128 rfl Go.Proofs.Tryd.ntmps128 [(0, .int .i64 p0)] (by kernel_rfl) rfl ?_
  refine W_seq ?_
  refine W_region ?_
  refine WO_seg 1 [] (by kernel_rfl) (by kernel_rfl) ?_
  refine WO_end rfl ?_
  refine X_then ?_
  refine W_seq ?_
  refine W_region ?_
  refine WO_seg 4 [(2, .int .i64 (IntKind.wrap .i64 (Int.tdiv (IntKind.wrap .i64 (p0 + 16)) 8)))] (by kernel_rfl) (by kernel_rfl) ?_
  refine WO_end rfl ?_
  refine X_then ?_
  refine W_ret ?_
  obtain rfl := Option.some.inj hr
  refine X_ret [.tmp 2] [.int .i64 (IntKind.wrap .i64 (Int.tdiv (IntKind.wrap .i64 (p0 + 16)) 8))] rfl (ResAll.cons (ResAt.tmp (by kernel_rfl)) ResAll.nil) ?_
  exact ⟨m, rfl, hm, st⟩

def internal_bytealg_hashStr_string_L1 (N : Nat) (p0 : ByteArray) (s1 : Int × Int) : Option ((Int × Int) ⊕ ((Int))) :=
  if (decide (s1.2 < (ByteArray.size p0 : Int))) = true then ((idxB p0 s1.2).bind fun x1 => some (.inl (IntKind.wrap .u32 ((IntKind.wrap .u32 (s1.1 * 16777619)) + (IntKind.wrap .u32 (x1.toNat : Int))), IntKind.wrap .i64 (s1.2 + 1)))) else (some (.inr s1.1))

def internal_bytealg_hashStr_string_L2 (N : Nat) (s2 : Int × Int × Int) : Option ((Int × Int × Int) ⊕ ((Int))) :=
  if (decide (s2.2.2 > 0)) = true then ((if ((iAnd .i64 s2.2.2 1) != 0) = true then (some (IntKind.wrap .u32 (s2.1 * s2.2.1))) else (some s2.1) : Option (Int)).bind fun o3 => some (.inl (o3, IntKind.wrap .u32 (s2.2.1 * s2.2.1), Int.fdiv s2.2.2 (2 ^ 1)))) else (some (.inr s2.1))

def internal_bytealg_hashStr_string (N : Nat) (p0 : ByteArray) : Option (Int × Int) :=
  (loopM (internal_bytealg_hashStr_string_L1 N p0) N (0, 0)).bind fun o1 => (loopM (internal_bytealg_hashStr_string_L2 N) N (1, 16777619, (ByteArray.size p0 : Int))).bind fun o2 => some (o1, o2)

set_option maxHeartbeats 4000000 in
set_option maxRecDepth 100000 in
theorem internal_bytealg_hashStr_string_ok {N : Nat} {m : Mem} {own : List Piece} {w : World} {p0 : ByteArray} {r : Int × Int} (st : St m (own) w) (hr : internal_bytealg_hashStr_string N p0 = some r) : Calls Go.Proofs.Tryd.prog 134 #[.string p0] w fun e w' => ∃ (m' : Mem), e = .returned (.tuple #[.int .u32 r.1, .int .u32 r.2]) ∧ m.le m' ∧ St m' (own) w' := by
  unfold internal_bytealg_hashStr_string at hr
  have hm := m.le_refl
  refine W_calls Go.Proofs.Tryd.func134 rfl Go.Proofs.Tryd.ntmps134 [(0, .string p0)] (by kernel_rfl) rfl ?_
  refine W_seq ?_
  refine W_region ?_
  refine WO_seg 2 [] (by kernel_rfl) (by kernel_rfl) ?_
  refine WO_end rfl ?_
  refine X_then ?_
  refine W_seq ?_
  refine W_region ?_
  refine WO_seg 1 [(4, .int .u32 0)] (by kernel_rfl) (by kernel_rfl) ?_
  refine WO_end rfl ?_
  refine X_then ?_
  refine W_seq ?_
  refine W_seq ?_
  refine W_region ?_
  refine WO_seg 1 [(5, .int .i64 0)] (by kernel_rfl) (by kernel_rfl) ?_
  refine WO_end rfl ?_
  refine X_then ?_
  refine W_block ?_
  replace hr := bindS hr
  obtain ⟨out1, hr, hrKu1⟩ := hr
  refine W_cut (.exit 0) (fun L' w' => ∃ (o1 : Int) (m1 : Mem), o1 = out1 ∧ L' = [(0, .string p0), (4, .int .u32 o1)] ∧ m.le m1 ∧ St m1 (own) w') ?_ ?_
  · clear hr st
    rintro _ w1 ⟨o1, m1, rfl, rfl, hm, st⟩
    have hr := hrKu1
    clear hrKu1
    refine X_block_eq ?_
    refine X_then ?_
    refine W_seq ?_
    refine W_region ?_
    refine WO_seg 2 [(6, .int .u32 1), (7, .int .u32 16777619)] (by kernel_rfl) (by kernel_rfl) ?_
    refine WO_end rfl ?_
    refine X_then ?_
    refine W_seq ?_
    refine W_seq ?_
    refine W_region ?_
    refine WO_seg 3 [(8, .int .i64 (ByteArray.size p0 : Int))] (by kernel_rfl) (by kernel_rfl) ?_
    refine WO_end rfl ?_
    refine X_then ?_
    refine W_block ?_
    replace hr := bindS hr
    obtain ⟨out2, hr, hrKu2⟩ := hr
    refine W_cut (.exit 2) (fun L' w' => ∃ (o2 : Int) (m3 : Mem), o2 = out2 ∧ L' = [(4, .int .u32 o1), (6, .int .u32 o2)] ∧ m.le m3 ∧ St m3 (own) w') ?_ ?_
    · clear hr st
      rintro _ w3 ⟨o2, m3, rfl, rfl, hm, st⟩
      have hr := hrKu2
      clear hrKu2
      refine X_block_eq ?_
      refine X_then ?_
      refine W_seq ?_
      refine W_region ?_
      refine WO_seg 4 [(2, .int .u32 o1), (3, .int .u32 o2)] (by kernel_rfl) (by kernel_rfl) ?_
      refine WO_end rfl ?_
      refine X_then ?_
      refine W_ret ?_
      obtain rfl := Option.some.inj hr
      refine X_ret [.tmp 2, .tmp 3] [.int .u32 o1, .int .u32 o2] rfl (ResAll.cons (ResAt.tmp (by kernel_rfl)) (ResAll.cons (ResAt.tmp (by kernel_rfl)) ResAll.nil)) ?_
      exact ⟨m3, rfl, hm, st⟩
    intro K2_u2
    clear hrKu2
    refine W_env _ (by kernel_rfl) (W_loop (fun k2 L' w' => ∃ (s2 : Int × Int × Int) (m4 : Mem), loopM (internal_bytealg_hashStr_string_L2 N) k2 s2 = some out2 ∧ L' = [(4, .int .u32 o1), (6, .int .u32 s2.1), (7, .int .u32 s2.2.1), (8, .int .i64 s2.2.2)] ∧ m.le m4 ∧ St m4 (own) w') N ⟨(1, 16777619, (ByteArray.size p0 : Int)), m1, hr, rfl, hm, st⟩ ?_)
    clear st hr
    rintro k2 _ w4 ⟨s2, m4, hL, rfl, hm, st⟩
    rcases k2 with _ | k2
    · exact loopM_zero hL
    · obtain ⟨qu2, hr, hSu2, hBu2⟩ := loopM_succ hL
      clear hL
      unfold internal_bytealg_hashStr_string_L2 at hr
      refine W_seq ?_
      refine W_seq ?_
      refine W_region ?_
      refine WO_seg 2 [(25, .bool (decide (s2.2.2 > 0)))] (by kernel_rfl) (by kernel_rfl) ?_
      refine WO_end rfl ?_
      refine X_then ?_
      refine W_cond (decide (s2.2.2 > 0)) (by kernel_rfl) ?_ ?_
      · intro hc
        rw [if_pos hc] at hr
        refine W_skip ?_
        refine X_then ?_
        refine W_seq ?_
        refine W_block ?_
        refine W_seq ?_
        refine W_seq ?_
        refine W_region ?_
        refine WO_seg 3 [(30, .bool ((iAnd .i64 s2.2.2 1) != 0))] (by kernel_rfl) (by kernel_rfl) ?_
        refine WO_end rfl ?_
        refine X_then ?_
        replace hr := bindS hr
        obtain ⟨o3, hr, hrKu3⟩ := hr
        refine W_cut .normal (fun L' w' => ∃ (m5 : Mem), L' = [(4, .int .u32 o1), (6, .int .u32 o3), (7, .int .u32 s2.2.1), (8, .int .i64 s2.2.2)] ∧ m.le m5 ∧ St m5 (own) w') ?_ ?_
        · clear hr st
          have hr := hrKu3
          clear hrKu3
          rintro _ w5 ⟨m5, rfl, hm, st⟩
          refine X_then ?_
          refine W_region ?_
          refine WO_seg 4 [(7, .int .u32 (IntKind.wrap .u32 (s2.2.1 * s2.2.1)))] (by kernel_rfl) (by kernel_rfl) ?_
          refine WO_end rfl ?_
          refine X_block ?_
          refine X_then ?_
          refine W_region ?_
          refine WO_seg 3 [(8, .int .i64 (Int.fdiv s2.2.2 (2 ^ 1)))] (by kernel_rfl) (by kernel_rfl) ?_
          refine WO_end rfl ?_
          obtain rfl := Option.some.inj hr
          have hL := hSu2 _ rfl
          exact X_env _ (by kernel_rfl) (X_round k2 (Nat.lt_succ_self _) ⟨(o3, IntKind.wrap .u32 (s2.2.1 * s2.2.1), Int.fdiv s2.2.2 (2 ^ 1)), m5, hL, rfl, hm, st⟩)
        · intro Ku3
          clear hrKu3
          refine W_cond ((iAnd .i64 s2.2.2 1) != 0) (by kernel_rfl) ?_ ?_
          · intro hc
            rw [if_pos hc] at hr
            refine W_region ?_
            refine WO_seg 4 [(6, .int .u32 (IntKind.wrap .u32 (s2.1 * s2.2.1)))] (by kernel_rfl) (by kernel_rfl) ?_
            refine WO_end rfl ?_
            obtain rfl := Option.some.inj hr
            exact X_env _ (by kernel_rfl) (Ku3 _ _ ⟨m4, rfl, hm, st⟩)
          · intro hc
            rw [if_neg (not_true hc)] at hr
            refine W_skip ?_
            obtain rfl := Option.some.inj hr
            exact X_env _ (by kernel_rfl) (Ku3 _ _ ⟨m4, rfl, hm, st⟩)
      · intro hc
        rw [if_neg (not_true hc)] at hr
        refine W_exit ?_
        refine X_then_exit ?_
        obtain rfl := Option.some.inj hr
        have ho := hBu2 _ rfl
        refine X_then_exit ?_
        exact X_env _ (by kernel_rfl) (K2_u2 _ _ ⟨s2.1, m4, ho, rfl, hm, st⟩)
  intro K0_u1
  clear hrKu1
  refine W_env _ (by kernel_rfl) (W_loop (fun k1 L' w' => ∃ (s1 : Int × Int) (m2 : Mem), loopM (internal_bytealg_hashStr_string_L1 N p0) k1 s1 = some out1 ∧ L' = [(0, .string p0), (4, .int .u32 s1.1), (5, .int .i64 s1.2)] ∧ m.le m2 ∧ St m2 (own) w') N ⟨(0, 0), m, hr, rfl, hm, st⟩ ?_)
  clear st hr
  rintro k1 _ w2 ⟨s1, m2, hL, rfl, hm, st⟩
  rcases k1 with _ | k1
  · exact loopM_zero hL
  · obtain ⟨qu1, hr, hSu1, hBu1⟩ := loopM_succ hL
    clear hL
    unfold internal_bytealg_hashStr_string_L1 at hr
    refine W_seq ?_
    refine W_seq ?_
    refine W_region ?_
    refine WO_seg 4 [(12, .bool (decide (s1.2 < (ByteArray.size p0 : Int))))] (by kernel_rfl) (by kernel_rfl) ?_
    refine WO_end rfl ?_
    refine X_then ?_
    refine W_cond (decide (s1.2 < (ByteArray.size p0 : Int))) (by kernel_rfl) ?_ ?_
    · intro hc
      rw [if_pos hc] at hr
      refine W_skip ?_
      refine X_then ?_
      refine W_seq ?_
      refine W_block ?_
      refine W_region ?_
      refine WO_seg 4 [(16, .int .u32 (IntKind.wrap .u32 (s1.1 * 16777619))), (17, .string p0), (18, .int .i64 s1.2)] (by kernel_rfl) (by kernel_rfl) ?_
      replace hr := bindS hr
      obtain ⟨x1, hx1, hr⟩ := hr
      refine WO_one rfl (One_strIndex (d := 19) (t := 9) (x := (.tmp 17)) (y := (.tmp 18)) (by kernel_rfl) rfl (show evL _ _ = some (.string p0) from (by kernel_rfl)) (show evL _ _ = some (.int .i64 s1.2) from (by kernel_rfl)) (by kernel_rfl) hx1 ?_)
      refine WO_seg 3 [(4, .int .u32 (IntKind.wrap .u32 ((IntKind.wrap .u32 (s1.1 * 16777619)) + (IntKind.wrap .u32 (x1.toNat : Int)))))] (by kernel_rfl) (by kernel_rfl) ?_
      refine WO_end rfl ?_
      refine X_block ?_
      refine X_then ?_
      refine W_region ?_
      refine WO_seg 3 [(5, .int .i64 (IntKind.wrap .i64 (s1.2 + 1)))] (by kernel_rfl) (by kernel_rfl) ?_
      refine WO_end rfl ?_
      obtain rfl := Option.some.inj hr
      have hL := hSu1 _ rfl
      exact X_env _ (by kernel_rfl) (X_round k1 (Nat.lt_succ_self _) ⟨(IntKind.wrap .u32 ((IntKind.wrap .u32 (s1.1 * 16777619)) + (IntKind.wrap .u32 (x1.toNat : Int))), IntKind.wrap .i64 (s1.2 + 1)), m2, hL, rfl, hm, st⟩)
    · intro hc
      rw [if_neg (not_true hc)] at hr
      refine W_exit ?_
      refine X_then_exit ?_
      obtain rfl := Option.some.inj hr
      have ho := hBu1 _ rfl
      refine X_then_exit ?_
      exact X_env _ (by kernel_rfl) (K0_u1 _ _ ⟨s1.1, m2, ho, rfl, hm, st⟩)

def internal_bytealg_IndexRabinKarp_string_L1 (N : Nat) (p0 : ByteArray) (p1 : ByteArray) (s1 : Int × Int) : Option ((Int × Int) ⊕ ((Int))) :=
  if (decide (s1.2 < (ByteArray.size p1 : Int))) = true then ((idxB p0 s1.2).bind fun x1 => some (.inl (IntKind.wrap .u32 ((IntKind.wrap .u32 (s1.1 * 16777619)) + (IntKind.wrap .u32 (x1.toNat : Int))), IntKind.wrap .i64 (s1.2 + 1)))) else (some (.inr s1.1))

def internal_bytealg_IndexRabinKarp_string_L2 (N : Nat) (p0 : ByteArray) (p1 : ByteArray) (y1 : Int × Int) (s3 : Int × Int) : Option ((Int × Int) ⊕ ((Unit) ⊕ (Int))) :=
  if (decide (s3.2 < (ByteArray.size p0 : Int))) = true then ((idxB p0 s3.2).bind fun x2 => (idxB p0 (IntKind.wrap .i64 (s3.2 - (ByteArray.size p1 : Int)))).bind fun x3 => (if ((IntKind.wrap .u32 ((IntKind.wrap .u32 ((IntKind.wrap .u32 (s3.1 * 16777619)) + (IntKind.wrap .u32 (x2.toNat : Int)))) - (IntKind.wrap .u32 (y1.2 * (IntKind.wrap .u32 (x3.toNat : Int)))))) == y1.1) = true then ((subB p0 (IntKind.wrap .i64 ((IntKind.wrap .i64 (s3.2 + 1)) - (ByteArray.size p1 : Int))) (IntKind.wrap .i64 (s3.2 + 1))).bind fun s4 => some (s4.toList == p1.toList)) else (some false) : Option (Bool)).bind fun o4 => if o4 = true then (some (.inr (.inr (IntKind.wrap .i64 ((IntKind.wrap .i64 (s3.2 + 1)) - (ByteArray.size p1 : Int)))))) else (some (.inl (IntKind.wrap .u32 ((IntKind.wrap .u32 ((IntKind.wrap .u32 (s3.1 * 16777619)) + (IntKind.wrap .u32 (x2.toNat : Int)))) - (IntKind.wrap .u32 (y1.2 * (IntKind.wrap .u32 (x3.toNat : Int))))), IntKind.wrap .i64 (s3.2 + 1))))) else (some (.inr (.inl ())))

def internal_bytealg_IndexRabinKarp_string (N : Nat) (p0 : ByteArray) (p1 : ByteArray) : Option (Int) :=
  (internal_bytealg_hashStr_string N p1).bind fun y1 => (loopM (internal_bytealg_IndexRabinKarp_string_L1 N p0 p1) N (0, 0)).bind fun o1 => (if (o1 == y1.1) = true then ((subB p0 0 (ByteArray.size p1 : Int)).bind fun s2 => some (s2.toList == p1.toList)) else (some false) : Option (Bool)).bind fun o2 => if o2 = true then (some 0) else ((loopM (internal_bytealg_IndexRabinKarp_string_L2 N p0 p1 y1) N (o1, (ByteArray.size p1 : Int))).bind fun out2 => (match out2 with | .inl o3 => some (-1) | .inr (z) => some z))

set_option maxHeartbeats 4000000 in
set_option maxRecDepth 100000 in
theorem internal_bytealg_IndexRabinKarp_string_ok {N : Nat} {m : Mem} {own : List Piece} {w : World} {p0 : ByteArray} {p1 : ByteArray} {r : Int} (st : St m (own) w) (hr : internal_bytealg_IndexRabinKarp_string N p0 p1 = some r) : Calls Go.Proofs.Tryd.prog 129 #[.string p0, .string p1] w fun e w' => ∃ (m' : Mem), e = .returned (.int .i64 r) ∧ m.le m' ∧ St m' (own) w' := by
  unfold internal_bytealg_IndexRabinKarp_string at hr
  have hm := m.le_refl
  refine W_calls Go.Proofs.Tryd.func129 rfl Go.Proofs.Tryd.ntmps129 [(0, .string p0), (1, .string p1)] (by kernel_rfl) rfl ?_
  refine W_seq ?_
  refine W_region ?_
  refine WO_seg 1 [] (by kernel_rfl) (by kernel_rfl) ?_
  refine WO_end rfl ?_
  refine X_then ?_
  refine W_seq ?_
  refine W_region ?_
  refine WO_seg 1 [(12, .string p1)] (by kernel_rfl) (by kernel_rfl) ?_
  replace hr := bindS hr
  obtain ⟨y1, hx1, hr⟩ := hr
  refine WO_one rfl (One_fn 13 134 #[.string p1] (by kernel_rfl) rfl ?_)
  refine (internal_bytealg_hashStr_string_ok st hx1).mono ?_
  clear st
  rintro _ w1 ⟨m1, rfl, hle1, st⟩
  refine ⟨_, rfl, ?_⟩
  have hm := Mem.le_trans hm hle1
  refine WO_seg 5 [(5, .int .u32 y1.1), (6, .int .u32 y1.2)] (by kernel_rfl) (by kernel_rfl) ?_
  refine WO_end rfl ?_
  refine X_then ?_
  refine W_seq ?_
  refine W_region ?_
  refine WO_seg 3 [(7, .int .i64 (ByteArray.size p1 : Int))] (by kernel_rfl) (by kernel_rfl) ?_
  refine WO_end rfl ?_
  refine X_then ?_
  refine W_seq ?_
  refine W_region ?_
  refine WO_seg 1 [(8, .int .u32 0)] (by kernel_rfl) (by kernel_rfl) ?_
  refine WO_end rfl ?_
  refine X_then ?_
  refine W_seq ?_
  refine W_seq ?_
  refine W_region ?_
  refine WO_seg 1 [(9, .int .i64 0)] (by kernel_rfl) (by kernel_rfl) ?_
  refine WO_end rfl ?_
  refine X_then ?_
  refine W_block ?_
  replace hr := bindS hr
  obtain ⟨out1, hr, hrKu1⟩ := hr
  refine W_cut (.exit 0) (fun L' w' => ∃ (o1 : Int) (m2 : Mem), o1 = out1 ∧ L' = [(0, .string p0), (1, .string p1), (5, .int .u32 y1.1), (6, .int .u32 y1.2), (7, .int .i64 (ByteArray.size p1 : Int)), (8, .int .u32 o1)] ∧ m.le m2 ∧ St m2 (own) w') ?_ ?_
  · clear hr st
    rintro _ w2 ⟨o1, m2, rfl, rfl, hm, st⟩
    have hr := hrKu1
    clear hrKu1
    refine X_block_eq ?_
    refine X_then ?_
    refine W_seq ?_
    refine W_seq ?_
    refine W_region ?_
    replace hr := bindS hr
    obtain ⟨o2, hr, hrK⟩ := hr
    refine WO_cut (j := 10) (fun L' w' => ∃ (m4 : Mem), L' = [(0, .string p0), (1, .string p1), (5, .int .u32 y1.1), (6, .int .u32 y1.2), (7, .int .i64 (ByteArray.size p1 : Int)), (8, .int .u32 o1), (39, .bool o2)] ∧ m.le m4 ∧ St m4 (own) w') ?_ ?_
    · clear hr st
      have hr := hrK
      clear hrK
      rintro _ w4 ⟨m4, rfl, hm, st⟩
      refine WO_end rfl ?_
      refine X_then ?_
      refine W_cond o2 (by kernel_rfl) ?_ ?_
      · intro hc
        rw [if_pos hc] at hr
        refine W_seq ?_
        refine W_region ?_
        refine WO_seg 1 [(4, .int .i64 0)] (by kernel_rfl) (by kernel_rfl) ?_
        refine WO_end rfl ?_
        refine X_then ?_
        refine W_ret ?_
        refine X_then_ret ?_
        obtain rfl := Option.some.inj hr
        refine X_ret [.tmp 4] [.int .i64 0] rfl (ResAll.cons (ResAt.tmp (by kernel_rfl)) ResAll.nil) ?_
        exact ⟨m4, rfl, hm, st⟩
      · intro hc
        rw [if_neg (not_true hc)] at hr
        refine W_skip ?_
        refine X_then ?_
        refine W_seq ?_
        refine W_seq ?_
        refine W_region ?_
        refine WO_seg 2 [(10, .int .i64 (ByteArray.size p1 : Int))] (by kernel_rfl) (by kernel_rfl) ?_
        refine WO_end rfl ?_
        refine X_then ?_
        refine W_block ?_
        replace hr := bindS hr
        obtain ⟨out2, hr, hrKu2⟩ := hr
        refine W_cut (.exit 2) (fun L' w' => ∃ (o3 : Unit) (m5 : Mem), (.inl o3) = out2 ∧ L' = [] ∧ m.le m5 ∧ St m5 (own) w') ?_ ?_
        · clear hr st
          rintro _ w5 ⟨o3, m5, rfl, rfl, hm, st⟩
          have hr := hrKu2
          clear hrKu2
          dsimp only at hr
          refine X_block_eq ?_
          refine X_then ?_
          refine W_seq ?_
          refine W_region ?_
          refine WO_seg 1 [(4, .int .i64 (-1))] (by kernel_rfl) (by kernel_rfl) ?_
          refine WO_end rfl ?_
          refine X_then ?_
          refine W_ret ?_
          obtain rfl := Option.some.inj hr
          refine X_ret [.tmp 4] [.int .i64 (-1)] rfl (ResAll.cons (ResAt.tmp (by kernel_rfl)) ResAll.nil) ?_
          exact ⟨m5, rfl, hm, st⟩
        intro K2_u2
        refine W_env _ (by kernel_rfl) (W_loop (fun k2 L' w' => ∃ (s3 : Int × Int) (m6 : Mem), loopM (internal_bytealg_IndexRabinKarp_string_L2 N p0 p1 y1) k2 s3 = some out2 ∧ L' = [(0, .string p0), (1, .string p1), (5, .int .u32 y1.1), (6, .int .u32 y1.2), (7, .int .i64 (ByteArray.size p1 : Int)), (8, .int .u32 s3.1), (10, .int .i64 s3.2)] ∧ m.le m6 ∧ St m6 (own) w') N ⟨(o1, (ByteArray.size p1 : Int)), m4, hr, rfl, hm, st⟩ ?_)
        clear st hr
        rintro k2 _ w6 ⟨s3, m6, hL, rfl, hm, st⟩
        rcases k2 with _ | k2
        · exact loopM_zero hL
        · obtain ⟨qu2, hr, hSu2, hBu2⟩ := loopM_succ hL
          clear hL
          unfold internal_bytealg_IndexRabinKarp_string_L2 at hr
          refine W_seq ?_
          refine W_seq ?_
          refine W_region ?_
          refine WO_seg 4 [(44, .bool (decide (s3.2 < (ByteArray.size p0 : Int))))] (by kernel_rfl) (by kernel_rfl) ?_
          refine WO_end rfl ?_
          refine X_then ?_
          refine W_cond (decide (s3.2 < (ByteArray.size p0 : Int))) (by kernel_rfl) ?_ ?_
          · intro hc
            rw [if_pos hc] at hr
            refine W_skip ?_
            refine X_then ?_
            refine W_block ?_
            refine W_seq ?_
            refine W_region ?_
            refine WO_seg 3 [(8, .int .u32 (IntKind.wrap .u32 (s3.1 * 16777619)))] (by kernel_rfl) (by kernel_rfl) ?_
            refine WO_end rfl ?_
            refine X_then ?_
            refine W_seq ?_
            refine W_region ?_
            refine WO_seg 3 [(47, .int .u32 (IntKind.wrap .u32 (s3.1 * 16777619))), (48, .string p0), (49, .int .i64 s3.2)] (by kernel_rfl) (by kernel_rfl) ?_
            replace hr := bindS hr
            obtain ⟨x2, hx4, hr⟩ := hr
            refine WO_one rfl (One_strIndex (d := 50) (t := 9) (x := (.tmp 48)) (y := (.tmp 49)) (by kernel_rfl) rfl (show evL _ _ = some (.string p0) from (by kernel_rfl)) (show evL _ _ = some (.int .i64 s3.2) from (by kernel_rfl)) (by kernel_rfl) hx4 ?_)
            refine WO_seg 3 [(8, .int .u32 (IntKind.wrap .u32 ((IntKind.wrap .u32 (s3.1 * 16777619)) + (IntKind.wrap .u32 (x2.toNat : Int)))))] (by kernel_rfl) (by kernel_rfl) ?_
            refine WO_end rfl ?_
            refine X_then ?_
            refine W_seq ?_
            refine W_region ?_
            refine WO_seg 6 [(53, .int .u32 (IntKind.wrap .u32 ((IntKind.wrap .u32 (s3.1 * 16777619)) + (IntKind.wrap .u32 (x2.toNat : Int))))), (54, .int .u32 y1.2), (55, .string p0), (58, .int .i64 (IntKind.wrap .i64 (s3.2 - (ByteArray.size p1 : Int))))] (by kernel_rfl) (by kernel_rfl) ?_
            replace hr := bindS hr
            obtain ⟨x3, hx5, hr⟩ := hr
            refine WO_one rfl (One_strIndex (d := 59) (t := 9) (x := (.tmp 55)) (y := (.tmp 58)) (by kernel_rfl) rfl (show evL _ _ = some (.string p0) from (by kernel_rfl)) (show evL _ _ = some (.int .i64 (IntKind.wrap .i64 (s3.2 - (ByteArray.size p1 : Int)))) from (by kernel_rfl)) (by kernel_rfl) hx5 ?_)
            refine WO_seg 4 [(8, .int .u32 (IntKind.wrap .u32 ((IntKind.wrap .u32 ((IntKind.wrap .u32 (s3.1 * 16777619)) + (IntKind.wrap .u32 (x2.toNat : Int)))) - (IntKind.wrap .u32 (y1.2 * (IntKind.wrap .u32 (x3.toNat : Int)))))))] (by kernel_rfl) (by kernel_rfl) ?_
            refine WO_end rfl ?_
            refine X_then ?_
            refine W_seq ?_
            refine W_region ?_
            refine WO_seg 3 [(10, .int .i64 (IntKind.wrap .i64 (s3.2 + 1)))] (by kernel_rfl) (by kernel_rfl) ?_
            refine WO_end rfl ?_
            refine X_then ?_
            refine W_seq ?_
            refine W_region ?_
            replace hr := bindS hr
            obtain ⟨o4, hr, hrK⟩ := hr
            refine WO_cut (j := 13) (fun L' w' => ∃ (m7 : Mem), L' = [(0, .string p0), (1, .string p1), (5, .int .u32 y1.1), (6, .int .u32 y1.2), (7, .int .i64 (ByteArray.size p1 : Int)), (8, .int .u32 (IntKind.wrap .u32 ((IntKind.wrap .u32 ((IntKind.wrap .u32 (s3.1 * 16777619)) + (IntKind.wrap .u32 (x2.toNat : Int)))) - (IntKind.wrap .u32 (y1.2 * (IntKind.wrap .u32 (x3.toNat : Int))))))), (10, .int .i64 (IntKind.wrap .i64 (s3.2 + 1))), (77, .bool o4)] ∧ m.le m7 ∧ St m7 (own) w') ?_ ?_
            · clear hr st
              have hr := hrK
              clear hrK
              rintro _ w7 ⟨m7, rfl, hm, st⟩
              refine WO_end rfl ?_
              refine X_then ?_
              refine W_cond o4 (by kernel_rfl) ?_ ?_
              · intro hc
                rw [if_pos hc] at hr
                refine W_seq ?_
                refine W_region ?_
                refine WO_seg 4 [(4, .int .i64 (IntKind.wrap .i64 ((IntKind.wrap .i64 (s3.2 + 1)) - (ByteArray.size p1 : Int))))] (by kernel_rfl) (by kernel_rfl) ?_
                refine WO_end rfl ?_
                refine X_then ?_
                refine W_ret ?_
                refine X_block_ret ?_
                obtain rfl := Option.some.inj hr
                have ho := hBu2 _ rfl
                subst ho
                have hr := hrKu2
                dsimp only at hr
                refine X_then_ret ?_
                refine X_block_ret ?_
                refine X_then_ret ?_
                obtain rfl := Option.some.inj hr
                refine X_ret [.tmp 4] [.int .i64 (IntKind.wrap .i64 ((IntKind.wrap .i64 (s3.2 + 1)) - (ByteArray.size p1 : Int)))] rfl (ResAll.cons (ResAt.tmp (by kernel_rfl)) ResAll.nil) ?_
                exact ⟨m7, rfl, hm, st⟩
              · intro hc
                rw [if_neg (not_true hc)] at hr
                refine W_skip ?_
                refine X_block ?_
                obtain rfl := Option.some.inj hr
                have hL := hSu2 _ rfl
                exact X_env _ (by kernel_rfl) (X_round k2 (Nat.lt_succ_self _) ⟨(IntKind.wrap .u32 ((IntKind.wrap .u32 ((IntKind.wrap .u32 (s3.1 * 16777619)) + (IntKind.wrap .u32 (x2.toNat : Int)))) - (IntKind.wrap .u32 (y1.2 * (IntKind.wrap .u32 (x3.toNat : Int))))), IntKind.wrap .i64 (s3.2 + 1)), m7, hL, rfl, hm, st⟩)
            · intro K
              clear hrK
              refine WO_seg 4 [(68, .bool ((IntKind.wrap .u32 ((IntKind.wrap .u32 ((IntKind.wrap .u32 (s3.1 * 16777619)) + (IntKind.wrap .u32 (x2.toNat : Int)))) - (IntKind.wrap .u32 (y1.2 * (IntKind.wrap .u32 (x3.toNat : Int)))))) == y1.1))] (by kernel_rfl) (by kernel_rfl) ?_
              rcases bcases ((IntKind.wrap .u32 ((IntKind.wrap .u32 ((IntKind.wrap .u32 (s3.1 * 16777619)) + (IntKind.wrap .u32 (x2.toNat : Int)))) - (IntKind.wrap .u32 (y1.2 * (IntKind.wrap .u32 (x3.toNat : Int)))))) == y1.1) with hc | hc
              · rw [if_pos hc] at hr
                refine WO_fact (t := 68) (b := true) ((IntKind.wrap .u32 ((IntKind.wrap .u32 ((IntKind.wrap .u32 (s3.1 * 16777619)) + (IntKind.wrap .u32 (x2.toNat : Int)))) - (IntKind.wrap .u32 (y1.2 * (IntKind.wrap .u32 (x3.toNat : Int)))))) == y1.1) (by kernel_rfl) hc ?_
                refine WO_seg 5 [(69, .string p0), (72, .int .i64 (IntKind.wrap .i64 ((IntKind.wrap .i64 (s3.2 + 1)) - (ByteArray.size p1 : Int)))), (73, .int .i64 (IntKind.wrap .i64 (s3.2 + 1)))] (by kernel_rfl) (by kernel_rfl) ?_
                replace hr := bindS hr
                obtain ⟨s4, hx6, hr⟩ := hr
                refine WO_one rfl (One_strSlice (d := 74) (t := 9) (x := (.tmp 69)) (lo := (some (.tmp 72))) (hi := (some (.tmp 73))) (by kernel_rfl) rfl (show evL _ _ = some (.string p0) from (by kernel_rfl)) (by kernel_rfl) (.inr ⟨_, _, rfl, (show evL _ _ = some (.int .i64 (IntKind.wrap .i64 ((IntKind.wrap .i64 (s3.2 + 1)) - (ByteArray.size p1 : Int)))) from (by kernel_rfl))⟩) (.inr ⟨_, _, rfl, (show evL _ _ = some (.int .i64 (IntKind.wrap .i64 (s3.2 + 1))) from (by kernel_rfl))⟩) hx6 ?_)
                refine WO_seg 3 [(77, .bool (s4.toList == p1.toList))] (by kernel_rfl) (by kernel_rfl) ?_
                obtain rfl := Option.some.inj hr
                exact WO_env _ (by kernel_rfl) (K _ _ ⟨m6, rfl, hm, st⟩)
              · rw [if_neg (not_true hc)] at hr
                refine WO_fact (t := 68) (b := false) ((IntKind.wrap .u32 ((IntKind.wrap .u32 ((IntKind.wrap .u32 (s3.1 * 16777619)) + (IntKind.wrap .u32 (x2.toNat : Int)))) - (IntKind.wrap .u32 (y1.2 * (IntKind.wrap .u32 (x3.toNat : Int)))))) == y1.1) (by kernel_rfl) hc ?_
                refine WO_seg 9 [(77, .bool false)] (by kernel_rfl) (by kernel_rfl) ?_
                obtain rfl := Option.some.inj hr
                exact WO_env _ (by kernel_rfl) (K _ _ ⟨m6, rfl, hm, st⟩)
          · intro hc
            rw [if_neg (not_true hc)] at hr
            refine W_exit ?_
            refine X_then_exit ?_
            obtain rfl := Option.some.inj hr
            have ho := hBu2 _ rfl
            refine X_then_exit ?_
            exact X_env _ (by kernel_rfl) (K2_u2 _ _ ⟨(), m6, ho, rfl, hm, st⟩)
    · intro K
      clear hrK
      refine WO_seg 4 [(33, .bool (o1 == y1.1))] (by kernel_rfl) (by kernel_rfl) ?_
      rcases bcases (o1 == y1.1) with hc | hc
      · rw [if_pos hc] at hr
        refine WO_fact (t := 33) (b := true) (o1 == y1.1) (by kernel_rfl) hc ?_
        refine WO_seg 2 [(34, .string p0), (35, .int .i64 (ByteArray.size p1 : Int))] (by kernel_rfl) (by kernel_rfl) ?_
        replace hr := bindS hr
        obtain ⟨s2, hx3, hr⟩ := hr
        refine WO_one rfl (One_strSlice (d := 36) (t := 9) (x := (.tmp 34)) (lo := none) (hi := (some (.tmp 35))) (by kernel_rfl) rfl (show evL _ _ = some (.string p0) from (by kernel_rfl)) (by kernel_rfl) (.inl ⟨rfl, rfl⟩) (.inr ⟨_, _, rfl, (show evL _ _ = some (.int .i64 (ByteArray.size p1 : Int)) from (by kernel_rfl))⟩) hx3 ?_)
        refine WO_seg 3 [(39, .bool (s2.toList == p1.toList))] (by kernel_rfl) (by kernel_rfl) ?_
        obtain rfl := Option.some.inj hr
        exact WO_env _ (by kernel_rfl) (K _ _ ⟨m2, rfl, hm, st⟩)
      · rw [if_neg (not_true hc)] at hr
        refine WO_fact (t := 33) (b := false) (o1 == y1.1) (by kernel_rfl) hc ?_
        refine WO_seg 6 [(39, .bool false)] (by kernel_rfl) (by kernel_rfl) ?_
        obtain rfl := Option.some.inj hr
        exact WO_env _ (by kernel_rfl) (K _ _ ⟨m2, rfl, hm, st⟩)
  intro K0_u1
  clear hrKu1
  refine W_env _ (by kernel_rfl) (W_loop (fun k1 L' w' => ∃ (s1 : Int × Int) (m3 : Mem), loopM (internal_bytealg_IndexRabinKarp_string_L1 N p0 p1) k1 s1 = some out1 ∧ L' = [(0, .string p0), (1, .string p1), (5, .int .u32 y1.1), (6, .int .u32 y1.2), (7, .int .i64 (ByteArray.size p1 : Int)), (8, .int .u32 s1.1), (9, .int .i64 s1.2)] ∧ m.le m3 ∧ St m3 (own) w') N ⟨(0, 0), m1, hr, rfl, hm, st⟩ ?_)
  clear st hr
  rintro k1 _ w3 ⟨s1, m3, hL, rfl, hm, st⟩
  rcases k1 with _ | k1
  · exact loopM_zero hL
  · obtain ⟨qu1, hr, hSu1, hBu1⟩ := loopM_succ hL
    clear hL
    unfold internal_bytealg_IndexRabinKarp_string_L1 at hr
    refine W_seq ?_
    refine W_seq ?_
    refine W_region ?_
    refine WO_seg 3 [(20, .bool (decide (s1.2 < (ByteArray.size p1 : Int))))] (by kernel_rfl) (by kernel_rfl) ?_
    refine WO_end rfl ?_
    refine X_then ?_
    refine W_cond (decide (s1.2 < (ByteArray.size p1 : Int))) (by kernel_rfl) ?_ ?_
    · intro hc
      rw [if_pos hc] at hr
      refine W_skip ?_
      refine X_then ?_
      refine W_seq ?_
      refine W_block ?_
      refine W_region ?_
      refine WO_seg 4 [(24, .int .u32 (IntKind.wrap .u32 (s1.1 * 16777619))), (25, .string p0), (26, .int .i64 s1.2)] (by kernel_rfl) (by kernel_rfl) ?_
      replace hr := bindS hr
      obtain ⟨x1, hx2, hr⟩ := hr
      refine WO_one rfl (One_strIndex (d := 27) (t := 9) (x := (.tmp 25)) (y := (.tmp 26)) (by kernel_rfl) rfl (show evL _ _ = some (.string p0) from (by kernel_rfl)) (show evL _ _ = some (.int .i64 s1.2) from (by kernel_rfl)) (by kernel_rfl) hx2 ?_)
      refine WO_seg 3 [(8, .int .u32 (IntKind.wrap .u32 ((IntKind.wrap .u32 (s1.1 * 16777619)) + (IntKind.wrap .u32 (x1.toNat : Int)))))] (by kernel_rfl) (by kernel_rfl) ?_
      refine WO_end rfl ?_
      refine X_block ?_
      refine X_then ?_
      refine W_region ?_
      refine WO_seg 3 [(9, .int .i64 (IntKind.wrap .i64 (s1.2 + 1)))] (by kernel_rfl) (by kernel_rfl) ?_
      refine WO_end rfl ?_
      obtain rfl := Option.some.inj hr
      have hL := hSu1 _ rfl
      exact X_env _ (by kernel_rfl) (X_round k1 (Nat.lt_succ_self _) ⟨(IntKind.wrap .u32 ((IntKind.wrap .u32 (s1.1 * 16777619)) + (IntKind.wrap .u32 (x1.toNat : Int))), IntKind.wrap .i64 (s1.2 + 1)), m3, hL, rfl, hm, st⟩)
    · intro hc
      rw [if_neg (not_true hc)] at hr
      refine W_exit ?_
      refine X_then_exit ?_
      obtain rfl := Option.some.inj hr
      have ho := hBu1 _ rfl
      refine X_then_exit ?_
      exact X_env _ (by kernel_rfl) (K0_u1 _ _ ⟨s1.1, m3, ho, rfl, hm, st⟩)

def internal_stringslite_Index (N : Nat) (p0 : ByteArray) (p1 : ByteArray) : Option (Int) :=
  (if ((ByteArray.size p1 : Int) == 0) = true then (some true) else (some (p1.toList == p0.toList)) : Option (Bool)).bind fun o1 => if o1 = true then (some 0) else (if ((ByteArray.size p1 : Int) == 1) = true then ((idxB p1 0).bind fun x1 => (internal_stringslite_IndexByte N p0 (x1.toNat : Int)).bind fun y1 => some y1) else (if (decide ((ByteArray.size p1 : Int) ≥ (ByteArray.size p0 : Int))) = true then (some (-1)) else none))

set_option maxHeartbeats 4000000 in
set_option maxRecDepth 100000 in
theorem internal_stringslite_Index_ok {N : Nat} {m : Mem} {own : List Piece} {w : World} {p0 : ByteArray} {p1 : ByteArray} {r : Int} (st : St m (own) w) (hr : internal_stringslite_Index N p0 p1 = some r) : Calls Go.Proofs.Tryd.prog 119 #[.string p0, .string p1] w fun e w' => ∃ (m' : Mem), e = .returned (.int .i64 r) ∧ m.le m' ∧ St m' (own) w' := by
  unfold internal_stringslite_Index at hr
  have hm := m.le_refl
  refine W_calls Go.Proofs.Tryd.func119 rfl Go.Proofs.Tryd.ntmps119 [(0, .string p0), (1, .string p1)] (by kernel_rfl) rfl ?_
  refine W_seq ?_
  refine W_region ?_
  refine WO_seg 1 [] (by kernel_rfl) (by kernel_rfl) ?_
  refine WO_end rfl ?_
  refine X_then ?_
  refine W_seq ?_
  refine W_region ?_
  refine WO_seg 3 [(5, .int .i64 (ByteArray.size p1 : Int))] (by kernel_rfl) (by kernel_rfl) ?_
  refine WO_end rfl ?_
  refine X_then ?_
  refine W_seq ?_
  refine W_block ?_
  refine W_seq ?_
  refine W_region ?_
  replace hr := bindS hr
  obtain ⟨o1, hr, hrK⟩ := hr
  refine WO_cut (j := 8) (fun L' w' => ∃ (m1 : Mem), L' = [(0, .string p0), (1, .string p1), (5, .int .i64 (ByteArray.size p1 : Int)), (16, .bool o1)] ∧ m.le m1 ∧ St m1 (own) w') ?_ ?_
  · clear hr st
    have hr := hrK
    clear hrK
    rintro _ w1 ⟨m1, rfl, hm, st⟩
    refine WO_end rfl ?_
    refine X_then ?_
    refine W_cond o1 (by kernel_rfl) ?_ ?_
    · intro hc
      rw [if_pos hc] at hr
      refine W_seq ?_
      refine W_region ?_
      refine WO_seg 1 [(4, .int .i64 0)] (by kernel_rfl) (by kernel_rfl) ?_
      refine WO_end rfl ?_
      refine X_then ?_
      refine W_ret ?_
      refine X_block_ret ?_
      refine X_then_ret ?_
      obtain rfl := Option.some.inj hr
      refine X_ret [.tmp 4] [.int .i64 0] rfl (ResAll.cons (ResAt.tmp (by kernel_rfl)) ResAll.nil) ?_
      exact ⟨m1, rfl, hm, st⟩
    · intro hc
      rw [if_neg (not_true hc)] at hr
      refine W_seq ?_
      refine W_region ?_
      refine WO_seg 3 [(24, .bool ((ByteArray.size p1 : Int) == 1))] (by kernel_rfl) (by kernel_rfl) ?_
      refine WO_end rfl ?_
      refine X_then ?_
      refine W_cond ((ByteArray.size p1 : Int) == 1) (by kernel_rfl) ?_ ?_
      · intro hc
        rw [if_pos hc] at hr
        refine W_seq ?_
        refine W_region ?_
        refine WO_seg 2 [(27, .string p0), (28, .string p1)] (by kernel_rfl) (by kernel_rfl) ?_
        replace hr := bindS hr
        obtain ⟨x1, hx1, hr⟩ := hr
        refine WO_one rfl (One_strIndex (d := 29) (t := 9) (x := (.tmp 28)) (y := (.const (.int .i64 0))) (by kernel_rfl) rfl (show evL _ _ = some (.string p1) from (by kernel_rfl)) (show evL _ _ = some (.int .i64 0) from (by kernel_rfl)) (by kernel_rfl) hx1 ?_)
        replace hr := bindS hr
        obtain ⟨y1, hx2, hr⟩ := hr
        refine WO_one rfl (One_fn 30 85 #[.string p0, .int .u8 (x1.toNat : Int)] (by kernel_rfl) rfl ?_)
        refine (internal_stringslite_IndexByte_ok st hx2).mono ?_
        clear st
        rintro _ w2 ⟨m2, rfl, hle1, st⟩
        refine ⟨_, rfl, ?_⟩
        have hm := Mem.le_trans hm hle1
        refine WO_seg 1 [(4, .int .i64 y1)] (by kernel_rfl) (by kernel_rfl) ?_
        refine WO_end rfl ?_
        refine X_then ?_
        refine W_ret ?_
        refine X_block_ret ?_
        refine X_then_ret ?_
        obtain rfl := Option.some.inj hr
        refine X_ret [.tmp 4] [.int .i64 y1] rfl (ResAll.cons (ResAt.tmp (by kernel_rfl)) ResAll.nil) ?_
        exact ⟨m2, rfl, hm, st⟩
      · intro hc
        rw [if_neg (not_true hc)] at hr
        refine W_seq ?_
        refine W_region ?_
        refine WO_seg 5 [(31, .bool (decide ((ByteArray.size p1 : Int) ≥ (ByteArray.size p0 : Int))))] (by kernel_rfl) (by kernel_rfl) ?_
        refine WO_end rfl ?_
        refine X_then ?_
        refine W_cond (decide ((ByteArray.size p1 : Int) ≥ (ByteArray.size p0 : Int))) (by kernel_rfl) ?_ ?_
        · intro hc
          rw [if_pos hc] at hr
          refine W_seq ?_
          refine W_region ?_
          refine WO_seg 1 [(4, .int .i64 (-1))] (by kernel_rfl) (by kernel_rfl) ?_
          refine WO_end rfl ?_
          refine X_then ?_
          refine W_ret ?_
          refine X_block_ret ?_
          refine X_then_ret ?_
          obtain rfl := Option.some.inj hr
          refine X_ret [.tmp 4] [.int .i64 (-1)] rfl (ResAll.cons (ResAt.tmp (by kernel_rfl)) ResAll.nil) ?_
          exact ⟨m1, rfl, hm, st⟩
        · intro hc
          rw [if_neg (not_true hc)] at hr
          cases hr
  · intro K
    clear hrK
    refine WO_seg 3 [(19, .bool ((ByteArray.size p1 : Int) == 0))] (by kernel_rfl) (by kernel_rfl) ?_
    rcases bcases ((ByteArray.size p1 : Int) == 0) with hc | hc
    · rw [if_pos hc] at hr
      refine WO_fact (t := 19) (b := true) ((ByteArray.size p1 : Int) == 0) (by kernel_rfl) hc ?_
      refine WO_seg 5 [(16, .bool true)] (by kernel_rfl) (by kernel_rfl) ?_
      obtain rfl := Option.some.inj hr
      exact WO_env _ (by kernel_rfl) (K _ _ ⟨m, rfl, hm, st⟩)
    · rw [if_neg (not_true hc)] at hr
      refine WO_fact (t := 19) (b := false) ((ByteArray.size p1 : Int) == 0) (by kernel_rfl) hc ?_
      refine WO_seg 5 [(16, .bool (p1.toList == p0.toList))] (by kernel_rfl) (by kernel_rfl) ?_
      obtain rfl := Option.some.inj hr
      exact WO_env _ (by kernel_rfl) (K _ _ ⟨m, rfl, hm, st⟩)

def strings_Index (N : Nat) (p0 : ByteArray) (p1 : ByteArray) : Option (Int) :=
  (internal_stringslite_Index N p0 p1).bind fun y1 => some y1

set_option maxHeartbeats 4000000 in
set_option maxRecDepth 100000 in
theorem strings_Index_ok {N : Nat} {m : Mem} {own : List Piece} {w : World} {p0 : ByteArray} {p1 : ByteArray} {r : Int} (st : St m (own) w) (hr : strings_Index N p0 p1 = some r) : Calls Go.Proofs.Tryd.prog 104 #[.string p0, .string p1] w fun e w' => ∃ (m' : Mem), e = .returned (.int .i64 r) ∧ m.le m' ∧ St m' (own) w' := by
  unfold strings_Index at hr
  have hm := m.le_refl
  refine W_calls Go.Proofs.Tryd.func104 rfl Go.Proofs.Tryd.ntmps104 [(0, .string p0), (1, .string p1)] (by kernel_rfl) rfl ?_
  refine W_seq ?_
  refine W_region ?_
  refine WO_seg 1 [] (by kernel_rfl) (by kernel_rfl) ?_
  refine WO_end rfl ?_
  refine X_then ?_
  refine W_seq ?_
  refine W_region ?_
  refine WO_seg 2 [(5, .string p0), (6, .string p1)] (by kernel_rfl) (by kernel_rfl) ?_
  replace hr := bindS hr
  obtain ⟨y1, hx1, hr⟩ := hr
  refine WO_one rfl (One_fn 7 119 #[.string p0, .string p1] (by kernel_rfl) rfl ?_)
  refine (internal_stringslite_Index_ok st hx1).mono ?_
  clear st
  rintro _ w1 ⟨m1, rfl, hle1, st⟩
  refine ⟨_, rfl, ?_⟩
  have hm := Mem.le_trans hm hle1
  refine WO_seg 1 [(4, .int .i64 y1)] (by kernel_rfl) (by kernel_rfl) ?_
  refine WO_end rfl ?_
  refine X_then ?_
  refine W_ret ?_
  obtain rfl := Option.some.inj hr
  refine X_ret [.tmp 4] [.int .i64 y1] rfl (ResAll.cons (ResAt.tmp (by kernel_rfl)) ResAll.nil) ?_
  exact ⟨m1, rfl, hm, st⟩

def strings_Count_L1 (N : Nat) (p1 : ByteArray) (s1 : ByteArray × Int) : Option ((ByteArray × Int) ⊕ ((Int))) :=
  (strings_Index N s1.1 p1).bind fun y1 => if (y1 == (-1)) = true then (some (.inr s1.2)) else ((subB s1.1 (IntKind.wrap .i64 (y1 + (ByteArray.size p1 : Int))) (ByteArray.size s1.1 : Int)).bind fun s2 => some (.inl (s2, IntKind.wrap .i64 (s1.2 + 1))))

def strings_Count (N : Nat) (p0 : ByteArray) (p1 : ByteArray) : Option (Int) :=
  if ((ByteArray.size p1 : Int) == 0) = true then none else (if ((ByteArray.size p1 : Int) == 1) = true then ((idxB p1 0).bind fun x1 => some (cntB p0 (x1.toNat : Int))) else ((loopM (strings_Count_L1 N p1) N (p0, 0)).bind fun z => some z))

set_option maxHeartbeats 4000000 in
set_option maxRecDepth 100000 in
theorem strings_Count_ok {N : Nat} {m : Mem} {own : List Piece} {w : World} {p0 : ByteArray} {p1 : ByteArray} {r : Int} (st : St m (own) w) (hr : strings_Count N p0 p1 = some r) : Calls Go.Proofs.Tryd.prog 103 #[.string p0, .string p1] w fun e w' => ∃ (m' : Mem), e = .returned (.int .i64 r) ∧ m.le m' ∧ St m' (own) w' := by
  unfold strings_Count at hr
  have hm := m.le_refl
  refine W_calls Go.Proofs.Tryd.func103 rfl Go.Proofs.Tryd.ntmps103 [(0, .string p0), (1, .string p1)] (by kernel_rfl) rfl ?_
  refine W_seq ?_
  refine W_region ?_
  refine WO_seg 1 [] (by kernel_rfl) (by kernel_rfl) ?_
  refine WO_end rfl ?_
  refine X_then ?_
  refine W_seq ?_
  refine W_seq ?_
  refine W_region ?_
  refine WO_seg 3 [(9, .bool ((ByteArray.size p1 : Int) == 0))] (by kernel_rfl) (by kernel_rfl) ?_
  refine WO_end rfl ?_
  refine X_then ?_
  refine W_cond ((ByteArray.size p1 : Int) == 0) (by kernel_rfl) ?_ ?_
  · intro hc
    rw [if_pos hc] at hr
    cases hr
  · intro hc
    rw [if_neg (not_true hc)] at hr
    refine W_skip ?_
    refine X_then ?_
    refine W_seq ?_
    refine W_seq ?_
    refine W_region ?_
    refine WO_seg 3 [(15, .bool ((ByteArray.size p1 : Int) == 1))] (by kernel_rfl) (by kernel_rfl) ?_
    refine WO_end rfl ?_
    refine X_then ?_
    refine W_cond ((ByteArray.size p1 : Int) == 1) (by kernel_rfl) ?_ ?_
    · intro hc
      rw [if_pos hc] at hr
      refine W_seq ?_
      refine W_region ?_
      refine WO_seg 2 [(16, .string p0), (17, .string p1)] (by kernel_rfl) (by kernel_rfl) ?_
      replace hr := bindS hr
      obtain ⟨x1, hx1, hr⟩ := hr
      refine WO_one rfl (One_strIndex (d := 18) (t := 9) (x := (.tmp 17)) (y := (.const (.int .i64 0))) (by kernel_rfl) rfl (show evL _ _ = some (.string p1) from (by kernel_rfl)) (show evL _ _ = some (.int .i64 0) from (by kernel_rfl)) (by kernel_rfl) hx1 ?_)
      refine WO_one rfl (One_countByte (d := 19) (f := 118) (x := (.tmp 16)) (y := (.tmp 18)) (ts := #[9, 5]) (by kernel_rfl) rfl (show evL _ _ = some (.string p0) from (by kernel_rfl)) (show evL _ _ = some (.int .u8 (x1.toNat : Int)) from (by kernel_rfl)) Go.Proofs.Tryd.func118 (by kernel_rfl) (by kernel_rfl) ?_)
      refine WO_seg 1 [(4, .int .i64 (cntB p0 (x1.toNat : Int)))] (by kernel_rfl) (by kernel_rfl) ?_
      refine WO_end rfl ?_
      refine X_then ?_
      refine W_ret ?_
      refine X_then_ret ?_
      obtain rfl := Option.some.inj hr
      refine X_ret [.tmp 4] [.int .i64 (cntB p0 (x1.toNat : Int))] rfl (ResAll.cons (ResAt.tmp (by kernel_rfl)) ResAll.nil) ?_
      exact ⟨m, rfl, hm, st⟩
    · intro hc
      rw [if_neg (not_true hc)] at hr
      refine W_skip ?_
      refine X_then ?_
      refine W_seq ?_
      refine W_region ?_
      refine WO_seg 1 [(5, .int .i64 0)] (by kernel_rfl) (by kernel_rfl) ?_
      refine WO_end rfl ?_
      refine X_then ?_
      refine W_block ?_
      replace hr := bindS hr
      obtain ⟨out1, hr, hrKu1⟩ := hr
      refine W_env _ (by kernel_rfl) (W_loop (fun k1 L' w' => ∃ (s1 : ByteArray × Int) (m1 : Mem), loopM (strings_Count_L1 N p1) k1 s1 = some out1 ∧ L' = [(0, .string s1.1), (1, .string p1), (5, .int .i64 s1.2)] ∧ m.le m1 ∧ St m1 (own) w') N ⟨(p0, 0), m, hr, rfl, hm, st⟩ ?_)
      clear st hr
      rintro k1 _ w1 ⟨s1, m1, hL, rfl, hm, st⟩
      rcases k1 with _ | k1
      · exact loopM_zero hL
      · obtain ⟨qu1, hr, hSu1, hBu1⟩ := loopM_succ hL
        clear hL
        unfold strings_Count_L1 at hr
        refine W_block ?_
        refine W_seq ?_
        refine W_region ?_
        refine WO_seg 2 [(20, .string s1.1), (21, .string p1)] (by kernel_rfl) (by kernel_rfl) ?_
        replace hr := bindS hr
        obtain ⟨y1, hx2, hr⟩ := hr
        refine WO_one rfl (One_fn 22 104 #[.string s1.1, .string p1] (by kernel_rfl) rfl ?_)
        refine (strings_Index_ok st hx2).mono ?_
        clear st
        rintro _ w2 ⟨m2, rfl, hle1, st⟩
        refine ⟨_, rfl, ?_⟩
        have hm := Mem.le_trans hm hle1
        refine WO_seg 1 [(6, .int .i64 y1)] (by kernel_rfl) (by kernel_rfl) ?_
        refine WO_end rfl ?_
        refine X_then ?_
        refine W_seq ?_
        refine W_seq ?_
        refine W_region ?_
        refine WO_seg 2 [(24, .bool (y1 == (-1)))] (by kernel_rfl) (by kernel_rfl) ?_
        refine WO_end rfl ?_
        refine X_then ?_
        refine W_cond (y1 == (-1)) (by kernel_rfl) ?_ ?_
        · intro hc
          rw [if_pos hc] at hr
          refine W_seq ?_
          refine W_region ?_
          refine WO_seg 2 [(4, .int .i64 s1.2)] (by kernel_rfl) (by kernel_rfl) ?_
          refine WO_end rfl ?_
          refine X_then ?_
          refine W_ret ?_
          refine X_then_ret ?_
          refine X_block_ret ?_
          obtain rfl := Option.some.inj hr
          have ho := hBu1 _ rfl
          subst ho
          have hr := hrKu1
          refine X_then_ret ?_
          refine X_block_ret ?_
          obtain rfl := Option.some.inj hr
          refine X_ret [.tmp 4] [.int .i64 s1.2] rfl (ResAll.cons (ResAt.tmp (by kernel_rfl)) ResAll.nil) ?_
          exact ⟨m2, rfl, hm, st⟩
        · intro hc
          rw [if_neg (not_true hc)] at hr
          refine W_skip ?_
          refine X_then ?_
          refine W_seq ?_
          refine W_region ?_
          refine WO_seg 3 [(5, .int .i64 (IntKind.wrap .i64 (s1.2 + 1)))] (by kernel_rfl) (by kernel_rfl) ?_
          refine WO_end rfl ?_
          refine X_then ?_
          refine W_region ?_
          refine WO_seg 5 [(28, .string s1.1), (32, .int .i64 (IntKind.wrap .i64 (y1 + (ByteArray.size p1 : Int))))] (by kernel_rfl) (by kernel_rfl) ?_
          replace hr := bindS hr
          obtain ⟨s2, hx3, hr⟩ := hr
          refine WO_one rfl (One_strSlice (d := 33) (t := 9) (x := (.tmp 28)) (lo := (some (.tmp 32))) (hi := none) (by kernel_rfl) rfl (show evL _ _ = some (.string s1.1) from (by kernel_rfl)) (by kernel_rfl) (.inr ⟨_, _, rfl, (show evL _ _ = some (.int .i64 (IntKind.wrap .i64 (y1 + (ByteArray.size p1 : Int)))) from (by kernel_rfl))⟩) (.inl ⟨rfl, rfl⟩) hx3 ?_)
          refine WO_seg 1 [(0, .string s2)] (by kernel_rfl) (by kernel_rfl) ?_
          refine WO_end rfl ?_
          refine X_block ?_
          obtain rfl := Option.some.inj hr
          have hL := hSu1 _ rfl
          exact X_env _ (by kernel_rfl) (X_round k1 (Nat.lt_succ_self _) ⟨(s2, IntKind.wrap .i64 (s1.2 + 1)), m2, hL, rfl, hm, st⟩)

def strings_genSplit_L1 (N : Nat) (p0 : ByteArray) (p1 : ByteArray) (p2 : Int) (o1 : Int) (s1 : ByteArray × Int × List (ByteArray)) : Option ((ByteArray × Int × List (ByteArray)) ⊕ ((ByteArray × Int × List (ByteArray)))) :=
  if (decide (s1.2.1 < (IntKind.wrap .i64 ((if (IntKind.wrap .i64 ((ByteArray.size p0 : Int) + 1)) < o1 then (IntKind.wrap .i64 ((ByteArray.size p0 : Int) + 1)) else o1) - 1)))) = true then ((strings_Index N s1.1 p1).bind fun y2 => if (decide (y2 < 0)) = true then (some (.inr (s1.1, s1.2.1, s1.2.2))) else ((subB s1.1 0 (IntKind.wrap .i64 (y2 + p2))).bind fun s2 => (idx s1.2.2 s1.2.1).bind fun x1 => (subB s1.1 (IntKind.wrap .i64 (y2 + (ByteArray.size p1 : Int))) (ByteArray.size s1.1 : Int)).bind fun s3 => some (.inl (s3, IntKind.wrap .i64 (s1.2.1 + 1), List.set s1.2.2 (Int.toNat s1.2.1) s2)))) else (some (.inr (s1.1, s1.2.1, s1.2.2)))

def strings_genSplit (N : Nat) (p0 : ByteArray) (p1 : ByteArray) (p2 : Int) (p3 : Int) : Option (List ByteArray) :=
  if (p3 == 0) = true then (some ([] : List (ByteArray))) else (if (p1.toList == (⟨#[]⟩ : ByteArray).toList) = true then none else ((if (decide (p3 < 0)) = true then ((strings_Count N p0 p1).bind fun y1 => some (IntKind.wrap .i64 (y1 + 1))) else (some p3) : Option (Int)).bind fun o1 => (makeA 16 (⟨#[]⟩ : ByteArray) (if (IntKind.wrap .i64 ((ByteArray.size p0 : Int) + 1)) < o1 then (IntKind.wrap .i64 ((ByteArray.size p0 : Int) + 1)) else o1)).bind fun l1 => (loopM (strings_genSplit_L1 N p0 p1 p2 o1) N (p0, 0, l1)).bind fun o2 => (idx o2.2.2 o2.2.1).bind fun x2 => (subS (List.set o2.2.2 (Int.toNat o2.2.1) o2.1) 0 (IntKind.wrap .i64 (o2.2.1 + 1))).bind fun l2 => some l2))

set_option maxHeartbeats 4000000 in
set_option maxRecDepth 100000 in
theorem strings_genSplit_ok {N : Nat} {m : Mem} {own : List Piece} {w : World} {p0 : ByteArray} {p1 : ByteArray} {p2 : Int} {p3 : Int} {r : List ByteArray} (st : St m (own) w) (hr : strings_genSplit N p0 p1 p2 p3 = some r) : Calls Go.Proofs.Tryd.prog 84 #[.string p0, .string p1, .int .i64 p2, .int .i64 p3] w fun e w' => ∃ (ra1 : Option Addr) (rc1 : Nat) (m' : Mem), e = .returned (.slice ra1 (List.length r) rc1) ∧ m.le m' ∧ St m' (own) w' ∧ RepS cStr m' ra1 rc1 r := by
  unfold strings_genSplit at hr
  have hm := m.le_refl
  refine W_calls Go.Proofs.Tryd.func84 rfl Go.Proofs.Tryd.ntmps84 [(0, .string p0), (1, .string p1), (2, .int .i64 p2), (3, .int .i64 p3)] (by kernel_rfl) rfl ?_
  refine W_seq ?_
  refine W_region ?_
  refine WO_seg 1 [] (by kernel_rfl) (by kernel_rfl) ?_
  refine WO_end rfl ?_
  refine X_then ?_
  refine W_seq ?_
  refine W_seq ?_
  refine W_region ?_
  refine WO_seg 2 [(13, .bool (p3 == 0))] (by kernel_rfl) (by kernel_rfl) ?_
  refine WO_end rfl ?_
  refine X_then ?_
  refine W_cond (p3 == 0) (by kernel_rfl) ?_ ?_
  · intro hc
    rw [if_pos hc] at hr
    refine W_seq ?_
    refine W_region ?_
    refine WO_seg 1 [(8, .slice none (List.length ([] : List (ByteArray))) 0)] (by kernel_rfl) (by kernel_rfl) ?_
    refine WO_end rfl ?_
    refine X_then ?_
    refine W_ret ?_
    refine X_then_ret ?_
    obtain rfl := Option.some.inj hr
    refine X_ret [.tmp 8] [.slice none (List.length ([] : List (ByteArray))) 0] rfl (ResAll.cons (ResAt.tmp (by kernel_rfl)) ResAll.nil) ?_
    exact ⟨none, 0, m, rfl, hm, st, (RepS.nil _ _)⟩
  · intro hc
    rw [if_neg (not_true hc)] at hr
    refine W_skip ?_
    refine X_then ?_
    refine W_seq ?_
    refine W_seq ?_
    refine W_region ?_
    refine WO_seg 2 [(15, .bool (p1.toList == (⟨#[]⟩ : ByteArray).toList))] (by kernel_rfl) (by kernel_rfl) ?_
    refine WO_end rfl ?_
    refine X_then ?_
    refine W_cond (p1.toList == (⟨#[]⟩ : ByteArray).toList) (by kernel_rfl) ?_ ?_
    · intro hc
      rw [if_pos hc] at hr
      cases hr
    · intro hc
      rw [if_neg (not_true hc)] at hr
      refine W_skip ?_
      refine X_then ?_
      refine W_seq ?_
      refine W_seq ?_
      refine W_region ?_
      refine WO_seg 2 [(20, .bool (decide (p3 < 0)))] (by kernel_rfl) (by kernel_rfl) ?_
      refine WO_end rfl ?_
      refine X_then ?_
      replace hr := bindS hr
      obtain ⟨o1, hr, hrKu1⟩ := hr
      refine W_cut .normal (fun L' w' => ∃ (m1 : Mem), L' = [(0, .string p0), (1, .string p1), (2, .int .i64 p2), (3, .int .i64 o1)] ∧ m.le m1 ∧ St m1 (own) w') ?_ ?_
      · clear hr st
        have hr := hrKu1
        clear hrKu1
        rintro _ w1 ⟨m1, rfl, hm, st⟩
        refine X_then ?_
        refine W_seq ?_
        refine W_region ?_
        refine WO_seg 6 [(3, .int .i64 (if (IntKind.wrap .i64 ((ByteArray.size p0 : Int) + 1)) < o1 then (IntKind.wrap .i64 ((ByteArray.size p0 : Int) + 1)) else o1))] (by kernel_rfl) (by kernel_rfl) ?_
        refine WO_end rfl ?_
        refine X_then ?_
        refine W_seq ?_
        refine W_region ?_
        refine WO_seg 1 [(30, .int .i64 (if (IntKind.wrap .i64 ((ByteArray.size p0 : Int) + 1)) < o1 then (IntKind.wrap .i64 ((ByteArray.size p0 : Int) + 1)) else o1))] (by kernel_rfl) (by kernel_rfl) ?_
        replace hr := bindS hr
        obtain ⟨l1, hx2, hr⟩ := hr
        refine WO_one rfl (One_makeArr (d := 31) (t := 30) (e := 9) (by_ := 16) (x := (.tmp 30)) (y := (.tmp 30)) (fun x : ByteArray => Value.string x) (by kernel_rfl) rfl (show evL _ _ = some (.int .i64 (if (IntKind.wrap .i64 ((ByteArray.size p0 : Int) + 1)) < o1 then (IntKind.wrap .i64 ((ByteArray.size p0 : Int) + 1)) else o1)) from (by kernel_rfl)) (show evL _ _ = some (.int .i64 (if (IntKind.wrap .i64 ((ByteArray.size p0 : Int) + 1)) < o1 then (IntKind.wrap .i64 ((ByteArray.size p0 : Int) + 1)) else o1)) from (by kernel_rfl)) (by kernel_rfl) (by kernel_rfl) rfl st hx2 ?_)
        clear st
        intro b1 w3 hn1 st
        refine WO_seg 1 [(9, .slice (some ⟨b1, 0, none⟩) (Int.toNat (if (IntKind.wrap .i64 ((ByteArray.size p0 : Int) + 1)) < o1 then (IntKind.wrap .i64 ((ByteArray.size p0 : Int) + 1)) else o1)) (Int.toNat (if (IntKind.wrap .i64 ((ByteArray.size p0 : Int) + 1)) < o1 then (IntKind.wrap .i64 ((ByteArray.size p0 : Int) + 1)) else o1)))] (by kernel_rfl) (by kernel_rfl) ?_
        refine WO_end rfl ?_
        refine X_then ?_
        refine W_seq ?_
        refine W_region ?_
        refine WO_seg 3 [(3, .int .i64 (IntKind.wrap .i64 ((if (IntKind.wrap .i64 ((ByteArray.size p0 : Int) + 1)) < o1 then (IntKind.wrap .i64 ((ByteArray.size p0 : Int) + 1)) else o1) - 1)))] (by kernel_rfl) (by kernel_rfl) ?_
        refine WO_end rfl ?_
        refine X_then ?_
        refine W_seq ?_
        refine W_region ?_
        refine WO_seg 1 [(10, .int .i64 0)] (by kernel_rfl) (by kernel_rfl) ?_
        refine WO_end rfl ?_
        refine X_then ?_
        refine W_seq ?_
        refine W_block ?_
        replace hr := bindS hr
        obtain ⟨out1, hr, hrKu2⟩ := hr
        refine W_cut (.exit 0) (fun L' w' => ∃ (o2 : ByteArray × Int × List (ByteArray)) (m3 : Mem), o2 = out1 ∧ L' = [(0, .string o2.1), (9, .slice (some ⟨b1, 0, none⟩) (Int.toNat (if (IntKind.wrap .i64 ((ByteArray.size p0 : Int) + 1)) < o1 then (IntKind.wrap .i64 ((ByteArray.size p0 : Int) + 1)) else o1)) (Int.toNat (if (IntKind.wrap .i64 ((ByteArray.size p0 : Int) + 1)) < o1 then (IntKind.wrap .i64 ((ByteArray.size p0 : Int) + 1)) else o1))), (10, .int .i64 o2.2.1)] ∧ m.le m3 ∧ St m3 (.blk b1 (.cells (acells (fun x : ByteArray => Value.string x) o2.2.2 []) 9 (0, 0)) :: own) w' ∧ List.length o2.2.2 = (Int.toNat (if (IntKind.wrap .i64 ((ByteArray.size p0 : Int) + 1)) < o1 then (IntKind.wrap .i64 ((ByteArray.size p0 : Int) + 1)) else o1))) ?_ ?_
        · clear hr st
          rintro _ w4 ⟨o2, m3, rfl, rfl, hm, st, hn2⟩
          have hr := hrKu2
          clear hrKu2
          refine X_block_eq ?_
          refine X_then ?_
          refine W_seq ?_
          refine W_region ?_
          refine WO_seg 3 [(58, .slice (some ⟨b1, 0, none⟩) (Int.toNat (if (IntKind.wrap .i64 ((ByteArray.size p0 : Int) + 1)) < o1 then (IntKind.wrap .i64 ((ByteArray.size p0 : Int) + 1)) else o1)) (Int.toNat (if (IntKind.wrap .i64 ((ByteArray.size p0 : Int) + 1)) < o1 then (IntKind.wrap .i64 ((ByteArray.size p0 : Int) + 1)) else o1))), (59, .int .i64 o2.2.1), (60, .string o2.1)] (by kernel_rfl) (by kernel_rfl) ?_
          replace hr := bindS hr
          obtain ⟨x2, hx7, hr⟩ := hr
          refine WO_one rfl (One_arrIndex (d := 61) (t := 30) (e := 9) (x := (.tmp 58)) (y := (.tmp 59)) (by kernel_rfl) rfl (show evL _ _ = some (.slice (some ⟨b1, 0, none⟩) (Int.toNat (if (IntKind.wrap .i64 ((ByteArray.size p0 : Int) + 1)) < o1 then (IntKind.wrap .i64 ((ByteArray.size p0 : Int) + 1)) else o1)) (Int.toNat (if (IntKind.wrap .i64 ((ByteArray.size p0 : Int) + 1)) < o1 then (IntKind.wrap .i64 ((ByteArray.size p0 : Int) + 1)) else o1))) from (by kernel_rfl)) (show evL _ _ = some (.int .i64 o2.2.1) from (by kernel_rfl)) (by kernel_rfl) hn2 hx7 ?_)
          refine WO_one rfl (One_arrStore (f := (fun x : ByteArray => Value.string x)) (u := o2.1) (t := 9) (x := (.tmp 61)) (y := (.tmp 60)) (by kernel_rfl) (show evL _ _ = some (.pointer (some ⟨b1, Int.toNat o2.2.1, none⟩)) from (by kernel_rfl)) (show evL _ _ = some (.string o2.1) from (by kernel_rfl)) st hx7 rfl (by kernel_rfl) ?_)
          clear st
          intro w8 st
          have hn5 : List.length (List.set o2.2.2 (Int.toNat o2.2.1) o2.1) = (Int.toNat (if (IntKind.wrap .i64 ((ByteArray.size p0 : Int) + 1)) < o1 then (IntKind.wrap .i64 ((ByteArray.size p0 : Int) + 1)) else o1)) := set_len hn2 _ _
          refine WO_end rfl ?_
          refine X_then ?_
          refine W_seq ?_
          refine W_region ?_
          refine WO_seg 3 [(62, .slice (some ⟨b1, 0, none⟩) (Int.toNat (if (IntKind.wrap .i64 ((ByteArray.size p0 : Int) + 1)) < o1 then (IntKind.wrap .i64 ((ByteArray.size p0 : Int) + 1)) else o1)) (Int.toNat (if (IntKind.wrap .i64 ((ByteArray.size p0 : Int) + 1)) < o1 then (IntKind.wrap .i64 ((ByteArray.size p0 : Int) + 1)) else o1))), (64, .int .i64 (IntKind.wrap .i64 (o2.2.1 + 1)))] (by kernel_rfl) (by kernel_rfl) ?_
          obtain ⟨m6, hle3, st, r1⟩ := St.freeze (c := cStr) st hn5 (Nat.le_refl _) (makeA_le hx2) (acells_size hn5 (Nat.add_zero _)) rfl (fun _ _ => rfl)
          have hm := Mem.le_trans hm hle3
          refine WO_env [(9, .slice (some ⟨b1, 0, none⟩) (List.length (List.set o2.2.2 (Int.toNat o2.2.1) o2.1)) (Int.toNat (if (IntKind.wrap .i64 ((ByteArray.size p0 : Int) + 1)) < o1 then (IntKind.wrap .i64 ((ByteArray.size p0 : Int) + 1)) else o1))), (10, .int .i64 o2.2.1), (62, .slice (some ⟨b1, 0, none⟩) (List.length (List.set o2.2.2 (Int.toNat o2.2.1) o2.1)) (Int.toNat (if (IntKind.wrap .i64 ((ByteArray.size p0 : Int) + 1)) < o1 then (IntKind.wrap .i64 ((ByteArray.size p0 : Int) + 1)) else o1))), (64, .int .i64 (IntKind.wrap .i64 (o2.2.1 + 1)))] (by (try simp only [hn5]); kernel_rfl) ?_
          replace hr := bindS hr
          obtain ⟨l2, hx8, hr⟩ := hr
          refine WO_one rfl (One_slice (d := 65) (t := 30) (e := 9) (x := (.tmp 62)) (lo := none) (hi := (some (.tmp 64))) cStr (by kernel_rfl) rfl (show evL _ _ = some (.slice (some ⟨b1, 0, none⟩) (List.length (List.set o2.2.2 (Int.toNat o2.2.1) o2.1)) (Int.toNat (if (IntKind.wrap .i64 ((ByteArray.size p0 : Int) + 1)) < o1 then (IntKind.wrap .i64 ((ByteArray.size p0 : Int) + 1)) else o1))) from (by kernel_rfl)) (by kernel_rfl) r1 (.inl ⟨rfl, rfl⟩) (.inr ⟨_, _, rfl, (show evL _ _ = some (.int .i64 (IntKind.wrap .i64 (o2.2.1 + 1))) from (by kernel_rfl))⟩) hx8 ?_)
          intro a1 c1 r2
          refine WO_seg 1 [(8, .slice a1 (List.length l2) c1)] (by kernel_rfl) (by kernel_rfl) ?_
          refine WO_end rfl ?_
          have st := st.tail
          refine X_then ?_
          refine W_ret ?_
          obtain rfl := Option.some.inj hr
          refine X_ret [.tmp 8] [.slice a1 (List.length l2) c1] rfl (ResAll.cons (ResAt.tmp (by kernel_rfl)) ResAll.nil) ?_
          exact ⟨a1, c1, m6, rfl, hm, st, r2⟩
        intro K0_u2
        clear hrKu2
        refine W_env _ (by kernel_rfl) (W_loop (fun k1 L' w' => ∃ (s1 : ByteArray × Int × List (ByteArray)) (m4 : Mem), loopM (strings_genSplit_L1 N p0 p1 p2 o1) k1 s1 = some out1 ∧ L' = [(0, .string s1.1), (1, .string p1), (2, .int .i64 p2), (3, .int .i64 (IntKind.wrap .i64 ((if (IntKind.wrap .i64 ((ByteArray.size p0 : Int) + 1)) < o1 then (IntKind.wrap .i64 ((ByteArray.size p0 : Int) + 1)) else o1) - 1))), (9, .slice (some ⟨b1, 0, none⟩) (Int.toNat (if (IntKind.wrap .i64 ((ByteArray.size p0 : Int) + 1)) < o1 then (IntKind.wrap .i64 ((ByteArray.size p0 : Int) + 1)) else o1)) (Int.toNat (if (IntKind.wrap .i64 ((ByteArray.size p0 : Int) + 1)) < o1 then (IntKind.wrap .i64 ((ByteArray.size p0 : Int) + 1)) else o1))), (10, .int .i64 s1.2.1)] ∧ m.le m4 ∧ St m4 (.blk b1 (.cells (acells (fun x : ByteArray => Value.string x) s1.2.2 []) 9 (0, 0)) :: own) w' ∧ List.length s1.2.2 = (Int.toNat (if (IntKind.wrap .i64 ((ByteArray.size p0 : Int) + 1)) < o1 then (IntKind.wrap .i64 ((ByteArray.size p0 : Int) + 1)) else o1))) N ⟨(p0, 0, l1), m1, hr, rfl, hm, st, hn1⟩ ?_)
        clear st hr
        rintro k1 _ w5 ⟨s1, m4, hL, rfl, hm, st, hn3⟩
        rcases k1 with _ | k1
        · exact loopM_zero hL
        · obtain ⟨qu2, hr, hSu2, hBu2⟩ := loopM_succ hL
          clear hL
          unfold strings_genSplit_L1 at hr
          refine W_seq ?_
          refine W_seq ?_
          refine W_region ?_
          refine WO_seg 3 [(36, .bool (decide (s1.2.1 < (IntKind.wrap .i64 ((if (IntKind.wrap .i64 ((ByteArray.size p0 : Int) + 1)) < o1 then (IntKind.wrap .i64 ((ByteArray.size p0 : Int) + 1)) else o1) - 1)))))] (by kernel_rfl) (by kernel_rfl) ?_
          refine WO_end rfl ?_
          refine X_then ?_
          refine W_cond (decide (s1.2.1 < (IntKind.wrap .i64 ((if (IntKind.wrap .i64 ((ByteArray.size p0 : Int) + 1)) < o1 then (IntKind.wrap .i64 ((ByteArray.size p0 : Int) + 1)) else o1) - 1)))) (by kernel_rfl) ?_ ?_
          · intro hc
            rw [if_pos hc] at hr
            refine W_skip ?_
            refine X_then ?_
            refine W_block ?_
            refine W_seq ?_
            refine W_region ?_
            refine WO_seg 2 [(37, .string s1.1), (38, .string p1)] (by kernel_rfl) (by kernel_rfl) ?_
            replace hr := bindS hr
            obtain ⟨y2, hx3, hr⟩ := hr
            refine WO_one rfl (One_fn 39 104 #[.string s1.1, .string p1] (by kernel_rfl) rfl ?_)
            refine (strings_Index_ok st hx3).mono ?_
            clear st
            rintro _ w6 ⟨m5, rfl, hle2, st⟩
            refine ⟨_, rfl, ?_⟩
            have hm := Mem.le_trans hm hle2
            refine WO_seg 1 [(11, .int .i64 y2)] (by kernel_rfl) (by kernel_rfl) ?_
            refine WO_end rfl ?_
            refine X_then ?_
            refine W_seq ?_
            refine W_seq ?_
            refine W_region ?_
            refine WO_seg 2 [(41, .bool (decide (y2 < 0)))] (by kernel_rfl) (by kernel_rfl) ?_
            refine WO_end rfl ?_
            refine X_then ?_
            refine W_cond (decide (y2 < 0)) (by kernel_rfl) ?_ ?_
            · intro hc
              rw [if_pos hc] at hr
              refine W_exit ?_
              refine X_then_exit ?_
              refine X_block_ne rfl ?_
              obtain rfl := Option.some.inj hr
              have ho := hBu2 _ rfl
              refine X_then_exit ?_
              exact X_env _ (by kernel_rfl) (K0_u2 _ _ ⟨(s1.1, s1.2.1, s1.2.2), m5, ho, rfl, hm, st, hn3⟩)
            · intro hc
              rw [if_neg (not_true hc)] at hr
              refine W_skip ?_
              refine X_then ?_
              refine W_seq ?_
              refine W_region ?_
              refine WO_seg 6 [(42, .slice (some ⟨b1, 0, none⟩) (Int.toNat (if (IntKind.wrap .i64 ((ByteArray.size p0 : Int) + 1)) < o1 then (IntKind.wrap .i64 ((ByteArray.size p0 : Int) + 1)) else o1)) (Int.toNat (if (IntKind.wrap .i64 ((ByteArray.size p0 : Int) + 1)) < o1 then (IntKind.wrap .i64 ((ByteArray.size p0 : Int) + 1)) else o1))), (43, .int .i64 s1.2.1), (44, .string s1.1), (47, .int .i64 (IntKind.wrap .i64 (y2 + p2)))] (by kernel_rfl) (by kernel_rfl) ?_
              replace hr := bindS hr
              obtain ⟨s2, hx4, hr⟩ := hr
              refine WO_one rfl (One_strSlice (d := 48) (t := 9) (x := (.tmp 44)) (lo := none) (hi := (some (.tmp 47))) (by kernel_rfl) rfl (show evL _ _ = some (.string s1.1) from (by kernel_rfl)) (by kernel_rfl) (.inl ⟨rfl, rfl⟩) (.inr ⟨_, _, rfl, (show evL _ _ = some (.int .i64 (IntKind.wrap .i64 (y2 + p2))) from (by kernel_rfl))⟩) hx4 ?_)
              replace hr := bindS hr
              obtain ⟨x1, hx5, hr⟩ := hr
              refine WO_one rfl (One_arrIndex (d := 49) (t := 30) (e := 9) (x := (.tmp 42)) (y := (.tmp 43)) (by kernel_rfl) rfl (show evL _ _ = some (.slice (some ⟨b1, 0, none⟩) (Int.toNat (if (IntKind.wrap .i64 ((ByteArray.size p0 : Int) + 1)) < o1 then (IntKind.wrap .i64 ((ByteArray.size p0 : Int) + 1)) else o1)) (Int.toNat (if (IntKind.wrap .i64 ((ByteArray.size p0 : Int) + 1)) < o1 then (IntKind.wrap .i64 ((ByteArray.size p0 : Int) + 1)) else o1))) from (by kernel_rfl)) (show evL _ _ = some (.int .i64 s1.2.1) from (by kernel_rfl)) (by kernel_rfl) hn3 hx5 ?_)
              refine WO_one rfl (One_arrStore (f := (fun x : ByteArray => Value.string x)) (u := s2) (t := 9) (x := (.tmp 49)) (y := (.tmp 48)) (by kernel_rfl) (show evL _ _ = some (.pointer (some ⟨b1, Int.toNat s1.2.1, none⟩)) from (by kernel_rfl)) (show evL _ _ = some (.string s2) from (by kernel_rfl)) st hx5 rfl (by kernel_rfl) ?_)
              clear st
              intro w7 st
              have hn4 : List.length (List.set s1.2.2 (Int.toNat s1.2.1) s2) = (Int.toNat (if (IntKind.wrap .i64 ((ByteArray.size p0 : Int) + 1)) < o1 then (IntKind.wrap .i64 ((ByteArray.size p0 : Int) + 1)) else o1)) := set_len hn3 _ _
              refine WO_end rfl ?_
              refine X_then ?_
              refine W_seq ?_
              refine W_region ?_
              refine WO_seg 5 [(50, .string s1.1), (54, .int .i64 (IntKind.wrap .i64 (y2 + (ByteArray.size p1 : Int))))] (by kernel_rfl) (by kernel_rfl) ?_
              replace hr := bindS hr
              obtain ⟨s3, hx6, hr⟩ := hr
              refine WO_one rfl (One_strSlice (d := 55) (t := 9) (x := (.tmp 50)) (lo := (some (.tmp 54))) (hi := none) (by kernel_rfl) rfl (show evL _ _ = some (.string s1.1) from (by kernel_rfl)) (by kernel_rfl) (.inr ⟨_, _, rfl, (show evL _ _ = some (.int .i64 (IntKind.wrap .i64 (y2 + (ByteArray.size p1 : Int)))) from (by kernel_rfl))⟩) (.inl ⟨rfl, rfl⟩) hx6 ?_)
              refine WO_seg 1 [(0, .string s3)] (by kernel_rfl) (by kernel_rfl) ?_
              refine WO_end rfl ?_
              refine X_then ?_
              refine W_region ?_
              refine WO_seg 3 [(10, .int .i64 (IntKind.wrap .i64 (s1.2.1 + 1)))] (by kernel_rfl) (by kernel_rfl) ?_
              refine WO_end rfl ?_
              refine X_block ?_
              obtain rfl := Option.some.inj hr
              have hL := hSu2 _ rfl
              exact X_env _ (by kernel_rfl) (X_round k1 (Nat.lt_succ_self _) ⟨(s3, IntKind.wrap .i64 (s1.2.1 + 1), List.set s1.2.2 (Int.toNat s1.2.1) s2), m5, hL, rfl, hm, st, hn4⟩)
          · intro hc
            rw [if_neg (not_true hc)] at hr
            refine W_exit ?_
            refine X_then_exit ?_
            obtain rfl := Option.some.inj hr
            have ho := hBu2 _ rfl
            refine X_then_exit ?_
            exact X_env _ (by kernel_rfl) (K0_u2 _ _ ⟨(s1.1, s1.2.1, s1.2.2), m4, ho, rfl, hm, st, hn3⟩)
      · intro Ku1
        clear hrKu1
        refine W_cond (decide (p3 < 0)) (by kernel_rfl) ?_ ?_
        · intro hc
          rw [if_pos hc] at hr
          refine W_region ?_
          refine WO_seg 2 [(21, .string p0), (22, .string p1)] (by kernel_rfl) (by kernel_rfl) ?_
          replace hr := bindS hr
          obtain ⟨y1, hx1, hr⟩ := hr
          refine WO_one rfl (One_fn 23 103 #[.string p0, .string p1] (by kernel_rfl) rfl ?_)
          refine (strings_Count_ok st hx1).mono ?_
          clear st
          rintro _ w2 ⟨m2, rfl, hle1, st⟩
          refine ⟨_, rfl, ?_⟩
          have hm := Mem.le_trans hm hle1
          refine WO_seg 2 [(3, .int .i64 (IntKind.wrap .i64 (y1 + 1)))] (by kernel_rfl) (by kernel_rfl) ?_
          refine WO_end rfl ?_
          obtain rfl := Option.some.inj hr
          exact X_env _ (by kernel_rfl) (Ku1 _ _ ⟨m2, rfl, hm, st⟩)
        · intro hc
          rw [if_neg (not_true hc)] at hr
          refine W_skip ?_
          obtain rfl := Option.some.inj hr
          exact X_env _ (by kernel_rfl) (Ku1 _ _ ⟨m, rfl, hm, st⟩)

def strings_Split (N : Nat) (p0 : ByteArray) (p1 : ByteArray) : Option (List ByteArray) :=
  (strings_genSplit N p0 p1 0 (-1)).bind fun y1 => some y1

set_option maxHeartbeats 4000000 in
set_option maxRecDepth 100000 in
theorem strings_Split_ok {N : Nat} {m : Mem} {own : List Piece} {w : World} {p0 : ByteArray} {p1 : ByteArray} {r : List ByteArray} (st : St m (own) w) (hr : strings_Split N p0 p1 = some r) : Calls Go.Proofs.Tryd.prog 53 #[.string p0, .string p1] w fun e w' => ∃ (ra1 : Option Addr) (rc1 : Nat) (m' : Mem), e = .returned (.slice ra1 (List.length r) rc1) ∧ m.le m' ∧ St m' (own) w' ∧ RepS cStr m' ra1 rc1 r := by
  unfold strings_Split at hr
  have hm := m.le_refl
  refine W_calls Go.Proofs.Tryd.func53 rfl Go.Proofs.Tryd.ntmps53 [(0, .string p0), (1, .string p1)] (by kernel_rfl) rfl ?_
  refine W_seq ?_
  refine W_region ?_
  refine WO_seg 1 [] (by kernel_rfl) (by kernel_rfl) ?_
  refine WO_end rfl ?_
  refine X_then ?_
  refine W_seq ?_
  refine W_region ?_
  refine WO_seg 2 [(5, .string p0), (6, .string p1)] (by kernel_rfl) (by kernel_rfl) ?_
  replace hr := bindS hr
  obtain ⟨y1, hx1, hr⟩ := hr
  refine WO_one rfl (One_fn 7 84 #[.string p0, .string p1, .int .i64 0, .int .i64 (-1)] (by kernel_rfl) rfl ?_)
  refine (strings_genSplit_ok st hx1).mono ?_
  clear st
  rintro _ w1 ⟨a1, c1, m1, rfl, hle1, st, r1⟩
  refine ⟨_, rfl, ?_⟩
  have hm := Mem.le_trans hm hle1
  refine WO_seg 1 [(4, .slice a1 (List.length y1) c1)] (by kernel_rfl) (by kernel_rfl) ?_
  refine WO_end rfl ?_
  refine X_then ?_
  refine W_ret ?_
  obtain rfl := Option.some.inj hr
  refine X_ret [.tmp 4] [.slice a1 (List.length y1) c1] rfl (ResAll.cons (ResAt.tmp (by kernel_rfl)) ResAll.nil) ?_
  exact ⟨a1, c1, m1, rfl, hm, st, r1⟩

def lexer_Path_L1 (N : Nat) (y1 : List ByteArray) (y2 : Option (List (Int × Int))) (s1 : Int) : Option ((Int) ⊕ ((Unit) ⊕ (Bool))) :=
  if (decide (s1 < (List.length y1 : Int))) = true then ((idx y1 s1).bind fun x1 => (if (decide ((ByteArray.size x1 : Int) < 1)) = true then (some true) else (if (decide ((ByteArray.size x1 : Int) > 24)) = true then (some true) else ((lexer_span N x1 0 y2 ([1, 2, 3, 4])).bind fun y3 => some (y3 != (ByteArray.size x1 : Int)))) : Option (Bool)).bind fun o3 => if o3 = true then (some (.inr (.inr (false)))) else (some (.inl (IntKind.wrap .i64 (s1 + 1))))) else (some (.inr (.inl ())))

def lexer_Path (N : Nat) (p0 : ByteArray) : Option (Bool) :=
  (strings_Split N p0 (⟨#[47]⟩ : ByteArray)).bind fun y1 => (if (decide ((ByteArray.size p0 : Int) > 80)) = true then (some true) else (some (decide ((List.length y1 : Int) > 8))) : Option (Bool)).bind fun o1 => if o1 = true then (some false) else ((lexer_kinds N).bind fun y2 => (loopM (lexer_Path_L1 N y1 y2) N 0).bind fun out1 => (match out1 with | .inl o2 => some true | .inr (z) => some z))

set_option maxHeartbeats 4000000 in
set_option maxRecDepth 100000 in
theorem lexer_Path_ok {N : Nat} {m : Mem} {own : List Piece} {w : World} {p0 : ByteArray} {r : Bool} (st : St m (own) w) (hr : lexer_Path N p0 = some r) : Calls Go.Proofs.Tryd.prog 17 #[.string p0] w fun e w' => ∃ (m' : Mem), e = .returned (.bool r) ∧ m.le m' ∧ St m' (own) w' := by
  unfold lexer_Path at hr
  have hm := m.le_refl
  refine W_calls Go.Proofs.Tryd.func17 rfl Go.Proofs.Tryd.ntmps17 [(0, .string p0)] (by kernel_rfl) rfl ?_
  refine W_seq ?_
  refine W_region ?_
  refine WO_seg 1 [] (by kernel_rfl) (by kernel_rfl) ?_
  refine WO_end rfl ?_
  refine X_then ?_
  refine W_seq ?_
  refine W_region ?_
  refine WO_seg 1 [(7, .string p0)] (by kernel_rfl) (by kernel_rfl) ?_
  replace hr := bindS hr
  obtain ⟨y1, hx1, hr⟩ := hr
  refine WO_one rfl (One_fn 8 53 #[.string p0, .string (⟨#[47]⟩ : ByteArray)] (by kernel_rfl) rfl ?_)
  refine (strings_Split_ok st hx1).mono ?_
  clear st
  rintro _ w1 ⟨a1, c1, m1, rfl, hle1, st, r1⟩
  refine ⟨_, rfl, ?_⟩
  have hm := Mem.le_trans hm hle1
  refine WO_seg 1 [(3, .slice a1 (List.length y1) c1)] (by kernel_rfl) (by kernel_rfl) ?_
  refine WO_end rfl ?_
  refine X_then ?_
  refine W_seq ?_
  refine W_seq ?_
  refine W_region ?_
  replace hr := bindS hr
  obtain ⟨o1, hr, hrK⟩ := hr
  refine WO_cut (j := 8) (fun L' w' => ∃ (m2 : Mem), L' = [(3, .slice a1 (List.length y1) c1), (16, .bool o1)] ∧ m.le m2 ∧ St m2 (own) w' ∧ RepS cStr m2 a1 c1 y1) ?_ ?_
  · clear hr st
    have hr := hrK
    clear hrK
    rintro _ w2 ⟨m2, rfl, hm, st, r1⟩
    refine WO_end rfl ?_
    refine X_then ?_
    refine W_cond o1 (by kernel_rfl) ?_ ?_
    · intro hc
      rw [if_pos hc] at hr
      refine W_seq ?_
      refine W_region ?_
      refine WO_seg 1 [(2, .bool false)] (by kernel_rfl) (by kernel_rfl) ?_
      refine WO_end rfl ?_
      refine X_then ?_
      refine W_ret ?_
      refine X_then_ret ?_
      obtain rfl := Option.some.inj hr
      refine X_ret [.tmp 2] [.bool false] rfl (ResAll.cons (ResAt.tmp (by kernel_rfl)) ResAll.nil) ?_
      exact ⟨m2, rfl, hm, st⟩
    · intro hc
      rw [if_neg (not_true hc)] at hr
      refine W_skip ?_
      refine X_then ?_
      refine W_seq ?_
      refine W_region ?_
      replace hr := bindS hr
      obtain ⟨y2, hx2, hr⟩ := hr
      refine WO_one rfl (One_fn 17 49 #[] (by kernel_rfl) rfl ?_)
      refine (lexer_kinds_ok st hx2).mono ?_
      clear st
      rintro _ w3 ⟨q1, es1, ck1, m3, rfl, hle2, st, r2⟩
      refine ⟨_, rfl, ?_⟩
      have hm := Mem.le_trans hm hle2
      have r1 := r1.mono hle2
      refine WO_seg 1 [(4, .map q1)] (by kernel_rfl) (by kernel_rfl) ?_
      refine WO_end rfl ?_
      refine X_then ?_
      refine W_seq ?_
      refine W_seq ?_
      refine W_region ?_
      refine WO_seg 3 [(18, .slice a1 (List.length y1) c1), (19, .int .i64 (List.length y1 : Int)), (20, .int .i64 0)] (by kernel_rfl) (by kernel_rfl) ?_
      refine WO_end rfl ?_
      refine X_then ?_
      refine W_block ?_
      replace hr := bindS hr
      obtain ⟨out1, hr, hrKu1⟩ := hr
      refine W_cut (.exit 0) (fun L' w' => ∃ (o2 : Unit) (m4 : Mem), (.inl o2) = out1 ∧ L' = [] ∧ m.le m4 ∧ St m4 (mpiece q1 es1 ck1 :: own) w' ∧ MapQ (fun n : Int => Value.int .u8 n) (cInt .i64) false m4 q1 es1 ck1 y2) ?_ ?_
      · clear hr st
        rintro _ w4 ⟨o2, m4, rfl, rfl, hm, st, r2⟩
        have hr := hrKu1
        clear hrKu1
        dsimp only at hr
        refine X_block_eq ?_
        refine X_then ?_
        refine W_seq ?_
        refine W_region ?_
        refine WO_seg 1 [(2, .bool true)] (by kernel_rfl) (by kernel_rfl) ?_
        refine WO_end rfl ?_
        refine X_then ?_
        refine W_ret ?_
        obtain rfl := Option.some.inj hr
        refine X_ret [.tmp 2] [.bool true] rfl (ResAll.cons (ResAt.tmp (by kernel_rfl)) ResAll.nil) ?_
        have st := st.tail
        exact ⟨m4, rfl, hm, st⟩
      intro K0_u1
      refine W_env _ (by kernel_rfl) (W_loop (fun k1 L' w' => ∃ (s1 : Int) (m5 : Mem), loopM (lexer_Path_L1 N y1 y2) k1 s1 = some out1 ∧ L' = [(4, .map q1), (18, .slice a1 (List.length y1) c1), (19, .int .i64 (List.length y1 : Int)), (20, .int .i64 s1)] ∧ m.le m5 ∧ St m5 (mpiece q1 es1 ck1 :: own) w' ∧ RepS cStr m5 a1 c1 y1 ∧ MapQ (fun n : Int => Value.int .u8 n) (cInt .i64) false m5 q1 es1 ck1 y2) N ⟨0, m3, hr, rfl, hm, st, r1, r2⟩ ?_)
      clear st hr
      rintro k1 _ w5 ⟨s1, m5, hL, rfl, hm, st, r1, r2⟩
      rcases k1 with _ | k1
      · exact loopM_zero hL
      · obtain ⟨qu1, hr, hSu1, hBu1⟩ := loopM_succ hL
        clear hL
        unfold lexer_Path_L1 at hr
        refine W_seq ?_
        refine W_region ?_
        refine WO_seg 1 [(21, .bool (decide (s1 < (List.length y1 : Int))))] (by kernel_rfl) (by kernel_rfl) ?_
        refine WO_end rfl ?_
        refine X_then ?_
        refine W_seq ?_
        refine W_cond (decide (s1 < (List.length y1 : Int))) (by kernel_rfl) ?_ ?_
        · intro hc
          rw [if_pos hc] at hr
          refine W_skip ?_
          refine X_then ?_
          refine W_seq ?_
          refine W_block ?_
          refine W_seq ?_
          refine W_region ?_
          replace hr := bindS hr
          obtain ⟨x1, hx3, hr⟩ := hr
          refine WO_one rfl (One_index (d := 22) (t := 30) (e := 9) (x := (.tmp 18)) (y := (.tmp 20)) cStr (by kernel_rfl) rfl (show evL _ _ = some (.slice a1 (List.length y1) c1) from (by kernel_rfl)) (show evL _ _ = some (.int .i64 s1) from (by kernel_rfl)) (by kernel_rfl) r1 hx3 ?_)
          rintro b1 f1 cs1 rfl hq1
          refine WO_one rfl (One_load_row (d := 23) (t := 9) (x := (.tmp 22)) (.string x1) (by kernel_rfl) rfl (show evL _ _ = some (.pointer (some ⟨b1, f1, none⟩)) from (by kernel_rfl)) st hq1 (by kernel_rfl) ?_)
          refine WO_seg 1 [(6, .string x1)] (by kernel_rfl) (by kernel_rfl) ?_
          refine WO_end rfl ?_
          refine X_then ?_
          refine W_seq ?_
          refine W_region ?_
          replace hr := bindS hr
          obtain ⟨o3, hr, hrK⟩ := hr
          refine WO_cut (j := 17) (fun L' w' => ∃ (m6 : Mem), L' = [(4, .map q1), (18, .slice a1 (List.length y1) c1), (19, .int .i64 (List.length y1 : Int)), (20, .int .i64 s1), (40, .bool o3)] ∧ m.le m6 ∧ St m6 (mpiece q1 es1 ck1 :: own) w' ∧ RepS cStr m6 a1 c1 y1 ∧ MapQ (fun n : Int => Value.int .u8 n) (cInt .i64) false m6 q1 es1 ck1 y2) ?_ ?_
          · clear hr st
            have hr := hrK
            clear hrK
            rintro _ w6 ⟨m6, rfl, hm, st, r1, r2⟩
            refine WO_end rfl ?_
            refine X_then ?_
            refine W_cond o3 (by kernel_rfl) ?_ ?_
            · intro hc
              rw [if_pos hc] at hr
              refine W_seq ?_
              refine W_region ?_
              refine WO_seg 1 [(2, .bool false)] (by kernel_rfl) (by kernel_rfl) ?_
              refine WO_end rfl ?_
              refine X_then ?_
              refine W_ret ?_
              refine X_block_ret ?_
              refine X_then_ret ?_
              obtain rfl := Option.some.inj hr
              have ho := hBu1 _ rfl
              subst ho
              have hr := hrKu1
              dsimp only at hr
              refine X_then_ret ?_
              refine X_block_ret ?_
              refine X_then_ret ?_
              obtain rfl := Option.some.inj hr
              refine X_ret [.tmp 2] [.bool false] rfl (ResAll.cons (ResAt.tmp (by kernel_rfl)) ResAll.nil) ?_
              have st := st.tail
              exact ⟨m6, rfl, hm, st⟩
            · intro hc
              rw [if_neg (not_true hc)] at hr
              refine W_skip ?_
              refine X_block ?_
              refine X_then ?_
              refine W_region ?_
              refine WO_seg 2 [(20, .int .i64 (IntKind.wrap .i64 (s1 + 1)))] (by kernel_rfl) (by kernel_rfl) ?_
              refine WO_end rfl ?_
              obtain rfl := Option.some.inj hr
              have hL := hSu1 _ rfl
              exact X_env _ (by kernel_rfl) (X_round k1 (Nat.lt_succ_self _) ⟨IntKind.wrap .i64 (s1 + 1), m6, hL, rfl, hm, st, r1, r2⟩)
          · intro K
            clear hrK
            refine WO_seg 4 [(27, .bool (decide ((ByteArray.size x1 : Int) < 1)))] (by kernel_rfl) (by kernel_rfl) ?_
            rcases bcases (decide ((ByteArray.size x1 : Int) < 1)) with hc | hc
            · rw [if_pos hc] at hr
              refine WO_fact (t := 27) (b := true) (decide ((ByteArray.size x1 : Int) < 1)) (by kernel_rfl) hc ?_
              refine WO_seg 13 [(40, .bool true)] (by kernel_rfl) (by kernel_rfl) ?_
              obtain rfl := Option.some.inj hr
              exact WO_env _ (by kernel_rfl) (K _ _ ⟨m5, rfl, hm, st, r1, r2⟩)
            · rw [if_neg (not_true hc)] at hr
              refine WO_fact (t := 27) (b := false) (decide ((ByteArray.size x1 : Int) < 1)) (by kernel_rfl) hc ?_
              refine WO_seg 5 [(32, .bool (decide ((ByteArray.size x1 : Int) > 24)))] (by kernel_rfl) (by kernel_rfl) ?_
              rcases bcases (decide ((ByteArray.size x1 : Int) > 24)) with hc | hc
              · rw [if_pos hc] at hr
                refine WO_fact (t := 32) (b := true) (decide ((ByteArray.size x1 : Int) > 24)) (by kernel_rfl) hc ?_
                refine WO_seg 8 [(40, .bool true)] (by kernel_rfl) (by kernel_rfl) ?_
                obtain rfl := Option.some.inj hr
                exact WO_env _ (by kernel_rfl) (K _ _ ⟨m5, rfl, hm, st, r1, r2⟩)
              · rw [if_neg (not_true hc)] at hr
                refine WO_fact (t := 32) (b := false) (decide ((ByteArray.size x1 : Int) > 24)) (by kernel_rfl) hc ?_
                refine WO_seg 2 [(33, .string x1), (34, .map q1)] (by kernel_rfl) (by kernel_rfl) ?_
                refine WO_one rfl (One_buildSlice (d := 35) (t := 26) (e := 3) (len := 4) (parts := #[(0, (.const (.int .i64 1))), (1, (.const (.int .i64 2))), (2, (.const (.int .i64 3))), (3, (.const (.int .i64 4)))]) (cInt .i64) (xs := [1, 2, 3, 4]) [.int .i64 1, .int .i64 2, .int .i64 3, .int .i64 4] (by kernel_rfl) rfl (fun _ => buildCells_run (by kernel_rfl) _) rfl rfl st ⟨[.int .i64 1], _, rfl, rfl, ⟨[.int .i64 2], _, rfl, rfl, ⟨[.int .i64 3], _, rfl, rfl, ⟨[.int .i64 4], _, rfl, rfl, rfl⟩⟩⟩⟩ ?_)
                clear st
                intro b2 m7 w7 hle3 st r3
                have hm := Mem.le_trans hm hle3
                have r1 := r1.mono hle3
                have r2 := r2.mono hle3
                have st := st.front1
                replace hr := bindS hr
                obtain ⟨y3, hx4, hr⟩ := hr
                refine WO_one rfl (One_fn 36 50 #[.string x1, .int .i64 0, .map q1, .slice (some ⟨b2, 0, none⟩) (List.length ([1, 2, 3, 4])) 4] (by kernel_rfl) rfl ?_)
                refine (lexer_span_ok st r2 r3 hx4).mono ?_
                clear st
                rintro _ w8 ⟨m8, rfl, hle4, st⟩
                refine ⟨_, rfl, ?_⟩
                have hm := Mem.le_trans hm hle4
                have r1 := r1.mono hle4
                have r3 := r3.mono hle4
                have r2 := r2.mono hle4
                refine WO_seg 4 [(40, .bool (y3 != (ByteArray.size x1 : Int)))] (by kernel_rfl) (by kernel_rfl) ?_
                obtain rfl := Option.some.inj hr
                have st := st.front1
                have st := st.tail
                exact WO_env _ (by kernel_rfl) (K _ _ ⟨m8, rfl, hm, st, r1, r2⟩)
        · intro hc
          rw [if_neg (not_true hc)] at hr
          refine W_exit ?_
          refine X_then_exit ?_
          obtain rfl := Option.some.inj hr
          have ho := hBu1 _ rfl
          refine X_then_exit ?_
          exact X_env _ (by kernel_rfl) (K0_u1 _ _ ⟨(), m5, ho, rfl, hm, st, r2⟩)
  · intro K
    clear hrK
    refine WO_seg 4 [(12, .bool (decide ((ByteArray.size p0 : Int) > 80)))] (by kernel_rfl) (by kernel_rfl) ?_
    rcases bcases (decide ((ByteArray.size p0 : Int) > 80)) with hc | hc
    · rw [if_pos hc] at hr
      refine WO_fact (t := 12) (b := true) (decide ((ByteArray.size p0 : Int) > 80)) (by kernel_rfl) hc ?_
      refine WO_seg 4 [(16, .bool true)] (by kernel_rfl) (by kernel_rfl) ?_
      obtain rfl := Option.some.inj hr
      exact WO_env _ (by kernel_rfl) (K _ _ ⟨m1, rfl, hm, st, r1⟩)
    · rw [if_neg (not_true hc)] at hr
      refine WO_fact (t := 12) (b := false) (decide ((ByteArray.size p0 : Int) > 80)) (by kernel_rfl) hc ?_
      refine WO_seg 4 [(16, .bool (decide ((List.length y1 : Int) > 8)))] (by kernel_rfl) (by kernel_rfl) ?_
      obtain rfl := Option.some.inj hr
      exact WO_env _ (by kernel_rfl) (K _ _ ⟨m1, rfl, hm, st, r1⟩)

def lexer_Name (N : Nat) (p0 : ByteArray) : Option (Bool) :=
  (lexer_kinds N).bind fun y1 => (if (decide ((ByteArray.size p0 : Int) ≥ 1)) = true then (if (decide ((ByteArray.size p0 : Int) ≤ 24)) = true then ((idxB p0 0).bind fun x1 => if (((mgetQ y1 (x1.toNat : Int)).getD 0) == 1) = true then ((lexer_span N p0 0 y1 ([1, 2, 3])).bind fun y2 => some (y2 == (ByteArray.size p0 : Int))) else (some false)) else (some false)) else (some false) : Option (Bool)).bind fun o1 => some o1

set_option maxHeartbeats 4000000 in
set_option maxRecDepth 100000 in
theorem lexer_Name_ok {N : Nat} {m : Mem} {own : List Piece} {w : World} {p0 : ByteArray} {r : Bool} (st : St m (own) w) (hr : lexer_Name N p0 = some r) : Calls Go.Proofs.Tryd.prog 15 #[.string p0] w fun e w' => ∃ (m' : Mem), e = .returned (.bool r) ∧ m.le m' ∧ St m' (own) w' := by
  unfold lexer_Name at hr
  have hm := m.le_refl
  refine W_calls Go.Proofs.Tryd.func15 rfl Go.Proofs.Tryd.ntmps15 [(0, .string p0)] (by kernel_rfl) rfl ?_
  refine W_seq ?_
  refine W_region ?_
  refine WO_seg 1 [] (by kernel_rfl) (by kernel_rfl) ?_
  refine WO_end rfl ?_
  refine X_then ?_
  refine W_seq ?_
  refine W_region ?_
  replace hr := bindS hr
  obtain ⟨y1, hx1, hr⟩ := hr
  refine WO_one rfl (One_fn 4 49 #[] (by kernel_rfl) rfl ?_)
  refine (lexer_kinds_ok st hx1).mono ?_
  clear st
  rintro _ w1 ⟨q1, es1, ck1, m1, rfl, hle1, st, r1⟩
  refine ⟨_, rfl, ?_⟩
  have hm := Mem.le_trans hm hle1
  refine WO_seg 1 [(3, .map q1)] (by kernel_rfl) (by kernel_rfl) ?_
  refine WO_end rfl ?_
  refine X_then ?_
  refine W_seq ?_
  refine W_region ?_
  replace hr := bindS hr
  obtain ⟨o1, hr, hrK⟩ := hr
  refine WO_cut (j := 25) (fun L' w' => ∃ (m2 : Mem), L' = [(2, .bool o1)] ∧ m.le m2 ∧ St m2 (mpiece q1 es1 ck1 :: own) w' ∧ MapQ (fun n : Int => Value.int .u8 n) (cInt .i64) false m2 q1 es1 ck1 y1) ?_ ?_
  · clear hr st
    have hr := hrK
    clear hrK
    rintro _ w2 ⟨m2, rfl, hm, st, r1⟩
    refine WO_end rfl ?_
    refine X_then ?_
    refine W_ret ?_
    obtain rfl := Option.some.inj hr
    refine X_ret [.tmp 2] [.bool o1] rfl (ResAll.cons (ResAt.tmp (by kernel_rfl)) ResAll.nil) ?_
    have st := st.tail
    exact ⟨m2, rfl, hm, st⟩
  · intro K
    clear hrK
    refine WO_seg 4 [(8, .bool (decide ((ByteArray.size p0 : Int) ≥ 1)))] (by kernel_rfl) (by kernel_rfl) ?_
    rcases bcases (decide ((ByteArray.size p0 : Int) ≥ 1)) with hc | hc
    · rw [if_pos hc] at hr
      refine WO_fact (t := 8) (b := true) (decide ((ByteArray.size p0 : Int) ≥ 1)) (by kernel_rfl) hc ?_
      refine WO_seg 5 [(13, .bool (decide ((ByteArray.size p0 : Int) ≤ 24)))] (by kernel_rfl) (by kernel_rfl) ?_
      rcases bcases (decide ((ByteArray.size p0 : Int) ≤ 24)) with hc | hc
      · rw [if_pos hc] at hr
        refine WO_fact (t := 13) (b := true) (decide ((ByteArray.size p0 : Int) ≤ 24)) (by kernel_rfl) hc ?_
        refine WO_seg 2 [(14, .map q1), (15, .string p0)] (by kernel_rfl) (by kernel_rfl) ?_
        replace hr := bindS hr
        obtain ⟨x1, hx2, hr⟩ := hr
        refine WO_one rfl (One_strIndex (d := 16) (t := 9) (x := (.tmp 15)) (y := (.const (.int .i64 0))) (by kernel_rfl) rfl (show evL _ _ = some (.string p0) from (by kernel_rfl)) (show evL _ _ = some (.int .i64 0) from (by kernel_rfl)) (by kernel_rfl) hx2 ?_)
        refine WO_one rfl (One_lookup (ek := (fun n : Int => Value.int .u8 n)) (c := (cInt .i64)) (agg := false) (k := (x1.toNat : Int)) (zx := 0) (zcs := [.int .i64 0]) (z := (.int .i64 0)) (kt := 5) (et := 3) (d := 17) (t := 68) (x := (.tmp 14)) (y := (.tmp 16)) (ok := false) (by kernel_rfl) rfl (show evL _ _ = some (.map q1) from (by kernel_rfl)) (show evL _ _ = some (.int .u8 (x1.toNat : Int)) from (by kernel_rfl)) (by kernel_rfl) (keyInt (by kernel_rfl)) st.head r1 rfl rfl ?_)
        rintro cs1 rfl
        refine WO_seg 3 [(20, .bool (((mgetQ y1 (x1.toNat : Int)).getD 0) == 1))] (by kernel_rfl) (by kernel_rfl) ?_
        rcases bcases (((mgetQ y1 (x1.toNat : Int)).getD 0) == 1) with hc | hc
        · rw [if_pos hc] at hr
          refine WO_fact (t := 20) (b := true) (((mgetQ y1 (x1.toNat : Int)).getD 0) == 1) (by kernel_rfl) hc ?_
          refine WO_seg 2 [(21, .string p0), (22, .map q1)] (by kernel_rfl) (by kernel_rfl) ?_
          refine WO_one rfl (One_buildSlice (d := 23) (t := 26) (e := 3) (len := 3) (parts := #[(0, (.const (.int .i64 1))), (1, (.const (.int .i64 2))), (2, (.const (.int .i64 3)))]) (cInt .i64) (xs := [1, 2, 3]) [.int .i64 1, .int .i64 2, .int .i64 3] (by kernel_rfl) rfl (fun _ => buildCells_run (by kernel_rfl) _) rfl rfl st ⟨[.int .i64 1], _, rfl, rfl, ⟨[.int .i64 2], _, rfl, rfl, ⟨[.int .i64 3], _, rfl, rfl, rfl⟩⟩⟩ ?_)
          clear st
          intro b1 m3 w3 hle2 st r2
          have hm := Mem.le_trans hm hle2
          have r1 := r1.mono hle2
          have st := st.front1
          replace hr := bindS hr
          obtain ⟨y2, hx3, hr⟩ := hr
          refine WO_one rfl (One_fn 24 50 #[.string p0, .int .i64 0, .map q1, .slice (some ⟨b1, 0, none⟩) (List.length ([1, 2, 3])) 3] (by kernel_rfl) rfl ?_)
          refine (lexer_span_ok st r1 r2 hx3).mono ?_
          clear st
          rintro _ w4 ⟨m4, rfl, hle3, st⟩
          refine ⟨_, rfl, ?_⟩
          have hm := Mem.le_trans hm hle3
          have r2 := r2.mono hle3
          have r1 := r1.mono hle3
          refine WO_seg 5 [(2, .bool (y2 == (ByteArray.size p0 : Int)))] (by kernel_rfl) (by kernel_rfl) ?_
          obtain rfl := Option.some.inj hr
          have st := st.front1
          have st := st.tail
          exact WO_env _ (by kernel_rfl) (K _ _ ⟨m4, rfl, hm, st, r1⟩)
        · rw [if_neg (not_true hc)] at hr
          refine WO_fact (t := 20) (b := false) (((mgetQ y1 (x1.toNat : Int)).getD 0) == 1) (by kernel_rfl) hc ?_
          refine WO_seg 9 [(2, .bool false)] (by kernel_rfl) (by kernel_rfl) ?_
          obtain rfl := Option.some.inj hr
          exact WO_env _ (by kernel_rfl) (K _ _ ⟨m1, rfl, hm, st, r1⟩)
      · rw [if_neg (not_true hc)] at hr
        refine WO_fact (t := 13) (b := false) (decide ((ByteArray.size p0 : Int) ≤ 24)) (by kernel_rfl) hc ?_
        refine WO_seg 16 [(2, .bool false)] (by kernel_rfl) (by kernel_rfl) ?_
        obtain rfl := Option.some.inj hr
        exact WO_env _ (by kernel_rfl) (K _ _ ⟨m1, rfl, hm, st, r1⟩)
    · rw [if_neg (not_true hc)] at hr
      refine WO_fact (t := 8) (b := false) (decide ((ByteArray.size p0 : Int) ≥ 1)) (by kernel_rfl) hc ?_
      refine WO_seg 21 [(2, .bool false)] (by kernel_rfl) (by kernel_rfl) ?_
      obtain rfl := Option.some.inj hr
      exact WO_env _ (by kernel_rfl) (K _ _ ⟨m1, rfl, hm, st, r1⟩)

def testgatelaw04_awake (N : Nat) : Option (Bool) :=
  (lexer_Tokens N (⟨#[97, 32, 61, 32, 53, 59, 32, 35, 32, 120]⟩ : ByteArray)).bind fun y1 => (if (y1.2.2 == 0) = true then (if (y1.2.1 == 0) = true then (if ((List.length y1.1 : Int) == 5) = true then ((idx y1.1 0).bind fun x1 => if ((x1.1 == 1) && ((x1.2.1.toList == (⟨#[97]⟩ : ByteArray).toList) && ((x1.2.2.1 == 0) && ((x1.2.2.2 == 0) && true)))) = true then ((idx y1.1 2).bind fun x2 => if ((x2.1 == 2) && ((x2.2.1.toList == (⟨#[]⟩ : ByteArray).toList) && ((x2.2.2.1 == 5) && ((x2.2.2.2 == 4) && true)))) = true then ((idx y1.1 4).bind fun x3 => if (x3.1 == 5) = true then ((idx y1.1 4).bind fun x4 => if (x4.2.2.2 == 10) = true then ((lexer_Path N (⟨#[97, 47, 98, 46, 99]⟩ : ByteArray)).bind fun y2 => if y2 = true then ((lexer_Name N (⟨#[57]⟩ : ByteArray)).bind fun y3 => some (!y3)) else (some false)) else (some false)) else (some false)) else (some false)) else (some false)) else (some false)) else (some false)) else (some false) : Option (Bool)).bind fun o1 => some o1

set_option maxHeartbeats 4000000 in
set_option maxRecDepth 100000 in
theorem testgatelaw04_awake_ok {N : Nat} {m : Mem} {own : List Piece} {w : World} {r : Bool} (st : St m (own) w) (hr : testgatelaw04_awake N = some r) : Calls Go.Proofs.Tryd.prog 19 #[] w fun e w' => ∃ (m' : Mem), e = .returned (.bool r) ∧ m.le m' ∧ St m' (own) w' := by
  unfold testgatelaw04_awake at hr
  have hm := m.le_refl
  refine W_calls Go.Proofs.Tryd.func19 rfl Go.Proofs.Tryd.ntmps19 [] (by kernel_rfl) rfl ?_
  refine W_seq ?_
  refine W_region ?_
  refine WO_seg 1 [] (by kernel_rfl) (by kernel_rfl) ?_
  refine WO_end rfl ?_
  refine X_then ?_
  refine W_seq ?_
  refine W_region ?_
  replace hr := bindS hr
  obtain ⟨y1, hx1, hr⟩ := hr
  refine WO_one rfl (One_fn 5 24 #[.string (⟨#[97, 32, 61, 32, 53, 59, 32, 35, 32, 120]⟩ : ByteArray)] (by kernel_rfl) rfl ?_)
  refine (lexer_Tokens_ok st hx1).mono ?_
  clear st
  rintro _ w1 ⟨a1, c1, m1, rfl, hle1, st, r1⟩
  refine ⟨_, rfl, ?_⟩
  have hm := Mem.le_trans hm hle1
  refine WO_seg 7 [(1, .slice a1 (List.length y1.1) c1), (2, .int .i64 y1.2.1), (3, .int .i64 y1.2.2)] (by kernel_rfl) (by kernel_rfl) ?_
  refine WO_end rfl ?_
  refine X_then ?_
  refine W_seq ?_
  refine W_region ?_
  replace hr := bindS hr
  obtain ⟨o1, hr, hrK⟩ := hr
  refine WO_cut (j := 47) (fun L' w' => ∃ (m2 : Mem), L' = [(0, .bool o1)] ∧ m.le m2 ∧ St m2 (.room a1 (List.length y1.1) c1 42 4 :: own) w') ?_ ?_
  · clear hr st
    have hr := hrK
    clear hrK
    rintro _ w2 ⟨m2, rfl, hm, st⟩
    refine WO_end rfl ?_
    refine X_then ?_
    refine W_ret ?_
    obtain rfl := Option.some.inj hr
    refine X_ret [.tmp 0] [.bool o1] rfl (ResAll.cons (ResAt.tmp (by kernel_rfl)) ResAll.nil) ?_
    have st := st.tail
    exact ⟨m2, rfl, hm, st⟩
  · intro K
    clear hrK
    refine WO_seg 3 [(11, .bool (y1.2.2 == 0))] (by kernel_rfl) (by kernel_rfl) ?_
    rcases bcases (y1.2.2 == 0) with hc | hc
    · rw [if_pos hc] at hr
      refine WO_fact (t := 11) (b := true) (y1.2.2 == 0) (by kernel_rfl) hc ?_
      refine WO_seg 4 [(15, .bool (y1.2.1 == 0))] (by kernel_rfl) (by kernel_rfl) ?_
      rcases bcases (y1.2.1 == 0) with hc | hc
      · rw [if_pos hc] at hr
        refine WO_fact (t := 15) (b := true) (y1.2.1 == 0) (by kernel_rfl) hc ?_
        refine WO_seg 5 [(20, .bool ((List.length y1.1 : Int) == 5))] (by kernel_rfl) (by kernel_rfl) ?_
        rcases bcases ((List.length y1.1 : Int) == 5) with hc | hc
        · rw [if_pos hc] at hr
          refine WO_fact (t := 20) (b := true) ((List.length y1.1 : Int) == 5) (by kernel_rfl) hc ?_
          refine WO_seg 1 [(21, .slice a1 (List.length y1.1) c1)] (by kernel_rfl) (by kernel_rfl) ?_
          replace hr := bindS hr
          obtain ⟨x1, hx2, hr⟩ := hr
          refine WO_one rfl (One_index (d := 22) (t := 37) (e := 42) (x := (.tmp 21)) (y := (.const (.int .i64 0))) (cPair (cInt .i64) (cPair cStr (cPair (cInt .i64) (cInt .i64)))) (by kernel_rfl) rfl (show evL _ _ = some (.slice a1 (List.length y1.1) c1) from (by kernel_rfl)) (show evL _ _ = some (.int .i64 0) from (by kernel_rfl)) (by kernel_rfl) r1 hx2 ?_)
          rintro b1 f1 cs1 ⟨_, _, rfl, rfl, ⟨_, _, rfl, rfl, ⟨_, _, rfl, rfl, rfl⟩⟩⟩ hq1
          refine WO_one rfl (One_load_row (d := 23) (t := 42) (x := (.tmp 22)) (.agg #[.int .i64 x1.1, .string x1.2.1, .int .i64 x1.2.2.1, .int .i64 x1.2.2.2]) (by kernel_rfl) rfl (show evL _ _ = some (.pointer (some ⟨b1, f1, none⟩)) from (by kernel_rfl)) st hq1 (by kernel_rfl) ?_)
          refine WO_seg 1 [(24, .agg #[.int .i64 1, .string (⟨#[97]⟩ : ByteArray), .int .i64 0, .int .i64 0])] (by kernel_rfl) (by kernel_rfl) ?_
          refine WO_one rfl (One_eqAgg (d := 25) (t := 42) (t2 := 42) (x := (.tmp 23)) (y := (.tmp 24)) (xs := #[.int .i64 x1.1, .string x1.2.1, .int .i64 x1.2.2.1, .int .i64 x1.2.2.2]) (ys := #[.int .i64 1, .string (⟨#[97]⟩ : ByteArray), .int .i64 0, .int .i64 0]) ((x1.1 == 1) && ((x1.2.1.toList == (⟨#[97]⟩ : ByteArray).toList) && ((x1.2.2.1 == 0) && ((x1.2.2.2 == 0) && true)))) (by kernel_rfl) rfl (show evL _ _ = some (.agg #[.int .i64 x1.1, .string x1.2.1, .int .i64 x1.2.2.1, .int .i64 x1.2.2.2]) from (by kernel_rfl)) (show evL _ _ = some (.agg #[.int .i64 1, .string (⟨#[97]⟩ : ByteArray), .int .i64 0, .int .i64 0]) from (by kernel_rfl)) (by kernel_rfl) (by kernel_rfl) (by kernel_rfl) ?_)
          refine WO_seg 2 [(27, .bool ((x1.1 == 1) && ((x1.2.1.toList == (⟨#[97]⟩ : ByteArray).toList) && ((x1.2.2.1 == 0) && ((x1.2.2.2 == 0) && true)))))] (by kernel_rfl) (by kernel_rfl) ?_
          rcases bcases ((x1.1 == 1) && ((x1.2.1.toList == (⟨#[97]⟩ : ByteArray).toList) && ((x1.2.2.1 == 0) && ((x1.2.2.2 == 0) && true)))) with hc | hc
          · rw [if_pos hc] at hr
            refine WO_fact (t := 27) (b := true) ((x1.1 == 1) && ((x1.2.1.toList == (⟨#[97]⟩ : ByteArray).toList) && ((x1.2.2.1 == 0) && ((x1.2.2.2 == 0) && true)))) (by kernel_rfl) hc ?_
            refine WO_seg 1 [(28, .slice a1 (List.length y1.1) c1)] (by kernel_rfl) (by kernel_rfl) ?_
            replace hr := bindS hr
            obtain ⟨x2, hx3, hr⟩ := hr
            refine WO_one rfl (One_index (d := 29) (t := 37) (e := 42) (x := (.tmp 28)) (y := (.const (.int .i64 2))) (cPair (cInt .i64) (cPair cStr (cPair (cInt .i64) (cInt .i64)))) (by kernel_rfl) rfl (show evL _ _ = some (.slice a1 (List.length y1.1) c1) from (by kernel_rfl)) (show evL _ _ = some (.int .i64 2) from (by kernel_rfl)) (by kernel_rfl) r1 hx3 ?_)
            rintro b2 f2 cs2 ⟨_, _, rfl, rfl, ⟨_, _, rfl, rfl, ⟨_, _, rfl, rfl, rfl⟩⟩⟩ hq2
            refine WO_one rfl (One_load_row (d := 30) (t := 42) (x := (.tmp 29)) (.agg #[.int .i64 x2.1, .string x2.2.1, .int .i64 x2.2.2.1, .int .i64 x2.2.2.2]) (by kernel_rfl) rfl (show evL _ _ = some (.pointer (some ⟨b2, f2, none⟩)) from (by kernel_rfl)) st hq2 (by kernel_rfl) ?_)
            refine WO_seg 1 [(31, .agg #[.int .i64 2, .string (⟨#[]⟩ : ByteArray), .int .i64 5, .int .i64 4])] (by kernel_rfl) (by kernel_rfl) ?_
            refine WO_one rfl (One_eqAgg (d := 32) (t := 42) (t2 := 42) (x := (.tmp 30)) (y := (.tmp 31)) (xs := #[.int .i64 x2.1, .string x2.2.1, .int .i64 x2.2.2.1, .int .i64 x2.2.2.2]) (ys := #[.int .i64 2, .string (⟨#[]⟩ : ByteArray), .int .i64 5, .int .i64 4]) ((x2.1 == 2) && ((x2.2.1.toList == (⟨#[]⟩ : ByteArray).toList) && ((x2.2.2.1 == 5) && ((x2.2.2.2 == 4) && true)))) (by kernel_rfl) rfl (show evL _ _ = some (.agg #[.int .i64 x2.1, .string x2.2.1, .int .i64 x2.2.2.1, .int .i64 x2.2.2.2]) from (by kernel_rfl)) (show evL _ _ = some (.agg #[.int .i64 2, .string (⟨#[]⟩ : ByteArray), .int .i64 5, .int .i64 4]) from (by kernel_rfl)) (by kernel_rfl) (by kernel_rfl) (by kernel_rfl) ?_)
            refine WO_seg 2 [(34, .bool ((x2.1 == 2) && ((x2.2.1.toList == (⟨#[]⟩ : ByteArray).toList) && ((x2.2.2.1 == 5) && ((x2.2.2.2 == 4) && true)))))] (by kernel_rfl) (by kernel_rfl) ?_
            rcases bcases ((x2.1 == 2) && ((x2.2.1.toList == (⟨#[]⟩ : ByteArray).toList) && ((x2.2.2.1 == 5) && ((x2.2.2.2 == 4) && true)))) with hc | hc
            · rw [if_pos hc] at hr
              refine WO_fact (t := 34) (b := true) ((x2.1 == 2) && ((x2.2.1.toList == (⟨#[]⟩ : ByteArray).toList) && ((x2.2.2.1 == 5) && ((x2.2.2.2 == 4) && true)))) (by kernel_rfl) hc ?_
              refine WO_seg 1 [(35, .slice a1 (List.length y1.1) c1)] (by kernel_rfl) (by kernel_rfl) ?_
              replace hr := bindS hr
              obtain ⟨x3, hx4, hr⟩ := hr
              refine WO_one rfl (One_index (d := 36) (t := 37) (e := 42) (x := (.tmp 35)) (y := (.const (.int .i64 4))) (cPair (cInt .i64) (cPair cStr (cPair (cInt .i64) (cInt .i64)))) (by kernel_rfl) rfl (show evL _ _ = some (.slice a1 (List.length y1.1) c1) from (by kernel_rfl)) (show evL _ _ = some (.int .i64 4) from (by kernel_rfl)) (by kernel_rfl) r1 hx4 ?_)
              rintro b3 f3 cs3 ⟨_, _, rfl, rfl, ⟨_, _, rfl, rfl, ⟨_, _, rfl, rfl, rfl⟩⟩⟩ hq3
              refine WO_seg 1 [(37, .pointer (some ⟨b3, f3, none⟩))] (by kernel_rfl) (by kernel_rfl) ?_
              refine WO_one rfl (One_load_row (d := 38) (t := 3) (x := (.tmp 37)) (.int .i64 x3.1) (by kernel_rfl) rfl (show evL _ _ = some (.pointer (some ⟨b3, f3, none⟩)) from (by kernel_rfl)) st hq3 (by kernel_rfl) ?_)
              refine WO_seg 3 [(41, .bool (x3.1 == 5))] (by kernel_rfl) (by kernel_rfl) ?_
              rcases bcases (x3.1 == 5) with hc | hc
              · rw [if_pos hc] at hr
                refine WO_fact (t := 41) (b := true) (x3.1 == 5) (by kernel_rfl) hc ?_
                refine WO_seg 1 [(42, .slice a1 (List.length y1.1) c1)] (by kernel_rfl) (by kernel_rfl) ?_
                replace hr := bindS hr
                obtain ⟨x4, hx5, hr⟩ := hr
                refine WO_one rfl (One_index (d := 43) (t := 37) (e := 42) (x := (.tmp 42)) (y := (.const (.int .i64 4))) (cPair (cInt .i64) (cPair cStr (cPair (cInt .i64) (cInt .i64)))) (by kernel_rfl) rfl (show evL _ _ = some (.slice a1 (List.length y1.1) c1) from (by kernel_rfl)) (show evL _ _ = some (.int .i64 4) from (by kernel_rfl)) (by kernel_rfl) r1 hx5 ?_)
                rintro b4 f4 cs4 ⟨_, _, rfl, rfl, ⟨_, _, rfl, rfl, ⟨_, _, rfl, rfl, rfl⟩⟩⟩ hq4
                refine WO_seg 1 [(44, .pointer (some ⟨b4, f4 + 3, none⟩))] (by kernel_rfl) (by kernel_rfl) ?_
                refine WO_one rfl (One_load_row (d := 45) (t := 3) (x := (.tmp 44)) (.int .i64 x4.2.2.2) (by kernel_rfl) rfl (show evL _ _ = some (.pointer (some ⟨b4, f4 + 3, none⟩)) from (by kernel_rfl)) st (hq4.drop 3) (by kernel_rfl) ?_)
                refine WO_seg 3 [(48, .bool (x4.2.2.2 == 10))] (by kernel_rfl) (by kernel_rfl) ?_
                rcases bcases (x4.2.2.2 == 10) with hc | hc
                · rw [if_pos hc] at hr
                  refine WO_fact (t := 48) (b := true) (x4.2.2.2 == 10) (by kernel_rfl) hc ?_
                  replace hr := bindS hr
                  obtain ⟨y2, hx6, hr⟩ := hr
                  refine WO_one rfl (One_fn 49 17 #[.string (⟨#[97, 47, 98, 46, 99]⟩ : ByteArray)] (by kernel_rfl) rfl ?_)
                  refine (lexer_Path_ok st hx6).mono ?_
                  clear st
                  rintro _ w3 ⟨m3, rfl, hle2, st⟩
                  refine ⟨_, rfl, ?_⟩
                  have hm := Mem.le_trans hm hle2
                  have r1 := r1.mono hle2
                  have hq1 := hq1.mono hle2
                  have hq2 := hq2.mono hle2
                  have hq3 := hq3.mono hle2
                  have hq4 := hq4.mono hle2
                  refine WO_seg 2 [(51, .bool y2)] (by kernel_rfl) (by kernel_rfl) ?_
                  rcases bcases y2 with hc | hc
                  · rw [if_pos hc] at hr
                    refine WO_fact (t := 51) (b := true) y2 (by kernel_rfl) hc ?_
                    replace hr := bindS hr
                    obtain ⟨y3, hx7, hr⟩ := hr
                    refine WO_one rfl (One_fn 52 15 #[.string (⟨#[57]⟩ : ByteArray)] (by kernel_rfl) rfl ?_)
                    refine (lexer_Name_ok st hx7).mono ?_
                    clear st
                    rintro _ w4 ⟨m4, rfl, hle3, st⟩
                    refine ⟨_, rfl, ?_⟩
                    have hm := Mem.le_trans hm hle3
                    have r1 := r1.mono hle3
                    have hq1 := hq1.mono hle3
                    have hq2 := hq2.mono hle3
                    have hq3 := hq3.mono hle3
                    have hq4 := hq4.mono hle3
                    refine WO_seg 3 [(0, .bool (!y3))] (by kernel_rfl) (by kernel_rfl) ?_
                    obtain rfl := Option.some.inj hr
                    exact WO_env _ (by kernel_rfl) (K _ _ ⟨m4, rfl, hm, st⟩)
                  · rw [if_neg (not_true hc)] at hr
                    refine WO_fact (t := 51) (b := false) y2 (by kernel_rfl) hc ?_
                    refine WO_seg 4 [(0, .bool false)] (by kernel_rfl) (by kernel_rfl) ?_
                    obtain rfl := Option.some.inj hr
                    exact WO_env _ (by kernel_rfl) (K _ _ ⟨m3, rfl, hm, st⟩)
                · rw [if_neg (not_true hc)] at hr
                  refine WO_fact (t := 48) (b := false) (x4.2.2.2 == 10) (by kernel_rfl) hc ?_
                  refine WO_seg 7 [(0, .bool false)] (by kernel_rfl) (by kernel_rfl) ?_
                  obtain rfl := Option.some.inj hr
                  exact WO_env _ (by kernel_rfl) (K _ _ ⟨m1, rfl, hm, st⟩)
              · rw [if_neg (not_true hc)] at hr
                refine WO_fact (t := 41) (b := false) (x3.1 == 5) (by kernel_rfl) hc ?_
                refine WO_seg 14 [(0, .bool false)] (by kernel_rfl) (by kernel_rfl) ?_
                obtain rfl := Option.some.inj hr
                exact WO_env _ (by kernel_rfl) (K _ _ ⟨m1, rfl, hm, st⟩)
            · rw [if_neg (not_true hc)] at hr
              refine WO_fact (t := 34) (b := false) ((x2.1 == 2) && ((x2.2.1.toList == (⟨#[]⟩ : ByteArray).toList) && ((x2.2.2.1 == 5) && ((x2.2.2.2 == 4) && true)))) (by kernel_rfl) hc ?_
              refine WO_seg 21 [(0, .bool false)] (by kernel_rfl) (by kernel_rfl) ?_
              obtain rfl := Option.some.inj hr
              exact WO_env _ (by kernel_rfl) (K _ _ ⟨m1, rfl, hm, st⟩)
          · rw [if_neg (not_true hc)] at hr
            refine WO_fact (t := 27) (b := false) ((x1.1 == 1) && ((x1.2.1.toList == (⟨#[97]⟩ : ByteArray).toList) && ((x1.2.2.1 == 0) && ((x1.2.2.2 == 0) && true)))) (by kernel_rfl) hc ?_
            refine WO_seg 28 [(0, .bool false)] (by kernel_rfl) (by kernel_rfl) ?_
            obtain rfl := Option.some.inj hr
            exact WO_env _ (by kernel_rfl) (K _ _ ⟨m1, rfl, hm, st⟩)
        · rw [if_neg (not_true hc)] at hr
          refine WO_fact (t := 20) (b := false) ((List.length y1.1 : Int) == 5) (by kernel_rfl) hc ?_
          refine WO_seg 35 [(0, .bool false)] (by kernel_rfl) (by kernel_rfl) ?_
          obtain rfl := Option.some.inj hr
          exact WO_env _ (by kernel_rfl) (K _ _ ⟨m1, rfl, hm, st⟩)
      · rw [if_neg (not_true hc)] at hr
        refine WO_fact (t := 15) (b := false) (y1.2.1 == 0) (by kernel_rfl) hc ?_
        refine WO_seg 40 [(0, .bool false)] (by kernel_rfl) (by kernel_rfl) ?_
        obtain rfl := Option.some.inj hr
        exact WO_env _ (by kernel_rfl) (K _ _ ⟨m1, rfl, hm, st⟩)
    · rw [if_neg (not_true hc)] at hr
      refine WO_fact (t := 11) (b := false) (y1.2.2 == 0) (by kernel_rfl) hc ?_
      refine WO_seg 44 [(0, .bool false)] (by kernel_rfl) (by kernel_rfl) ?_
      obtain rfl := Option.some.inj hr
      exact WO_env _ (by kernel_rfl) (K _ _ ⟨m1, rfl, hm, st⟩)

def testgatelaw04_LexerBlanks_L1 (N : Nat) (y1 : (List Int × Int) × List ByteArray) (s1 : ByteArray × ByteArray × Int × List (Int) × Int) : Option ((ByteArray × ByteArray × Int × List (Int) × Int) ⊕ ((ByteArray × ByteArray × List (Int) × Int))) :=
  if (decide (s1.2.2.1 < (List.length y1.2 : Int))) = true then ((idx y1.2 s1.2.2.1).bind fun x1 => (catB (⟨#[32]⟩ : ByteArray) x1).bind fun s2 => (catB s1.1 s2).bind fun s3 => (testgatemake_Tape_One N (s1.2.2.2.1, s1.2.2.2.2) ([(⟨#[32]⟩ : ByteArray), (⟨#[10, 10]⟩ : ByteArray), (⟨#[9]⟩ : ByteArray), (⟨#[32, 35, 32, 99, 32, 59, 32, 10]⟩ : ByteArray), (⟨#[13]⟩ : ByteArray)])).bind fun y2 => (catB y2.2 x1).bind fun s4 => (catB s1.2.1 s4).bind fun s5 => some (.inl (s3, s5, IntKind.wrap .i64 (s1.2.2.1 + 1), y2.1.1, y2.1.2))) else (some (.inr (s1.1, s1.2.1, s1.2.2.2.1, s1.2.2.2.2)))

def testgatelaw04_LexerBlanks_L2 (N : Nat) (y3 : (List (Int × ByteArray × Int × Int)) × Int × Int) (s6 : Int × (List (Int × ByteArray × Int × Int)) × (List (Int × ByteArray × Int × Int))) : Option ((Int × (List (Int × ByteArray × Int × Int)) × (List (Int × ByteArray × Int × Int))) ⊕ (((List (Int × ByteArray × Int × Int)) × (List (Int × ByteArray × Int × Int))) ⊕ (Bool))) :=
  if (decide (s6.1 < ((List.length y3.1) : Int))) = true then ((idx s6.2.2 s6.1).bind fun x2 => (idx s6.2.1 s6.1).bind fun x3 => (idx (List.set s6.2.2 (Int.toNat s6.1) (x2.1, x2.2.1, x2.2.2.1, 0)) s6.1).bind fun x4 => (idx (List.set s6.2.1 (Int.toNat s6.1) (x3.1, x3.2.1, x3.2.2.1, 0)) s6.1).bind fun x5 => if (!((x4.1 == x5.1) && ((x4.2.1.toList == x5.2.1.toList) && ((x4.2.2.1 == x5.2.2.1) && ((x4.2.2.2 == x5.2.2.2) && true))))) = true then (some (.inr (.inr (false)))) else (some (.inl (IntKind.wrap .i64 (s6.1 + 1), List.set s6.2.1 (Int.toNat s6.1) (x3.1, x3.2.1, x3.2.2.1, 0), List.set s6.2.2 (Int.toNat s6.1) (x2.1, x2.2.1, x2.2.2.1, 0))))) else (some (.inr (.inl (s6.2.1, s6.2.2))))

def testgatelaw04_LexerBlanks (N : Nat) (p0 : List Int) : Option (Bool) :=
  (testgatelaw04_words N (p0, 0)).bind fun y1 => (loopM (testgatelaw04_LexerBlanks_L1 N y1) N ((⟨#[]⟩ : ByteArray), (⟨#[]⟩ : ByteArray), 0, y1.1.1, y1.1.2)).bind fun o1 => (lexer_Tokens N o1.1).bind fun y3 => (lexer_Tokens N o1.2.1).bind fun y4 => (if (y3.2.2 != y4.2.2) = true then (some true) else (some (((List.length y3.1) : Int) != ((List.length y4.1) : Int))) : Option (Bool)).bind fun o2 => if o2 = true then (some false) else ((loopM (testgatelaw04_LexerBlanks_L2 N y3) N (0, y4.1, y3.1)).bind fun out2 => (match out2 with | .inl o3 => (testgatelaw04_awake N).bind fun y5 => some y5 | .inr (z) => some z))

set_option maxHeartbeats 4000000 in
set_option maxRecDepth 100000 in
theorem testgatelaw04_LexerBlanks_ok {N : Nat} {m : Mem} {own : List Piece} {w : World} {p0 : List Int} {a1 : Option Addr} {c1 : Nat} {r : Bool} (st : St m (own) w) (r1 : RepS (cInt .i64) m a1 c1 p0) (hr : testgatelaw04_LexerBlanks N p0 = some r) : Calls Go.Proofs.Tryd.prog 6 #[.slice a1 (List.length p0) c1] w fun e w' => ∃ (m' : Mem), e = .returned (.bool r) ∧ m.le m' ∧ St m' (own) w' := by
  unfold testgatelaw04_LexerBlanks at hr
  have hm := m.le_refl
  refine W_calls Go.Proofs.Tryd.func6 rfl Go.Proofs.Tryd.ntmps6 [(0, .slice a1 (List.length p0) c1)] (by kernel_rfl) rfl ?_
  refine W_seq ?_
  refine W_region ?_
  refine WO_seg 1 [] (by kernel_rfl) (by kernel_rfl) ?_
  refine WO_end rfl ?_
  refine X_then ?_
  refine W_seq ?_
  refine W_region ?_
  refine WO_seg 2 [(16, .agg #[.slice a1 (List.length p0) c1, .int .i64 0])] (by kernel_rfl) (by kernel_rfl) ?_
  refine WO_one rfl (One_box_own (d := 17) (e := 29) (x := (.tmp 16)) (.agg #[.slice a1 (List.length p0) c1, .int .i64 0]) (by kernel_rfl) rfl (by kernel_rfl) st ?_)
  clear st
  intro b1 w1 st
  refine WO_seg 1 [(3, .pointer (some ⟨b1, 0, none⟩))] (by kernel_rfl) (by kernel_rfl) ?_
  refine WO_end rfl ?_
  refine X_then ?_
  refine W_seq ?_
  refine W_region ?_
  refine WO_seg 2 [(4, .string (⟨#[]⟩ : ByteArray)), (5, .string (⟨#[]⟩ : ByteArray))] (by kernel_rfl) (by kernel_rfl) ?_
  refine WO_end rfl ?_
  refine X_then ?_
  refine W_seq ?_
  refine W_seq ?_
  refine W_region ?_
  refine WO_seg 1 [(18, .pointer (some ⟨b1, 0, none⟩))] (by kernel_rfl) (by kernel_rfl) ?_
  replace hr := bindS hr
  obtain ⟨y1, hx1, hr⟩ := hr
  refine WO_one rfl (One_fn 19 20 #[.pointer (some ⟨b1, 0, none⟩)] (by kernel_rfl) rfl ?_)
  refine (testgatelaw04_words_ok st r1 hx1).mono ?_
  clear st
  rintro _ w2 ⟨a2, c2, a3, c3, m2, rfl, hle2, st, r2, r3⟩
  refine ⟨_, rfl, ?_⟩
  have hm := Mem.le_trans hm hle2
  have r1 := r1.mono hle2
  refine WO_seg 2 [(20, .int .i64 (List.length y1.2 : Int)), (21, .int .i64 0)] (by kernel_rfl) (by kernel_rfl) ?_
  refine WO_end rfl ?_
  refine X_then ?_
  refine W_block ?_
  replace hr := bindS hr
  obtain ⟨out1, hr, hrKu1⟩ := hr
  refine W_cut (.exit 0) (fun L' w' => ∃ (o1 : ByteArray × ByteArray × List (Int) × Int) (a4 : Option Addr) (c4 : Nat) (m3 : Mem), o1 = out1 ∧ L' = [(4, .string o1.1), (5, .string o1.2.1)] ∧ m.le m3 ∧ St m3 (.blk b1 (.cells #[.slice a4 (List.length o1.2.2.1) c4, .int .i64 o1.2.2.2] 29 (0, 0)) :: .room a3 (List.length y1.2) c3 9 1 :: own) w' ∧ RepS (cInt .i64) m3 a4 c4 o1.2.2.1) ?_ ?_
  · clear hr st
    rintro _ w3 ⟨o1, a4, c4, m3, rfl, rfl, hm, st, r4⟩
    have hr := hrKu1
    clear hrKu1
    refine X_block_eq ?_
    refine X_then ?_
    refine W_seq ?_
    refine W_region ?_
    refine WO_seg 1 [(38, .string o1.1)] (by kernel_rfl) (by kernel_rfl) ?_
    replace hr := bindS hr
    obtain ⟨y3, hx8, hr⟩ := hr
    refine WO_one rfl (One_fn 39 24 #[.string o1.1] (by kernel_rfl) rfl ?_)
    refine Calls_own (c := (cPair (cInt .i64) (cPair cStr (cPair (cInt .i64) (cInt .i64))))) (f := (fun x : Int × ByteArray × Int × Int => [.int .i64 x.1, .string x.2.1, .int .i64 x.2.2.1, .int .i64 x.2.2.2])) (V := fun A K => .tuple #[.slice A (List.length y3.1) K, .int .i64 y3.2.1, .int .i64 y3.2.2]) (l := y3.1) (e := 42) (fun _ _ _ h => by obtain ⟨_, _, rfl, rfl, ⟨_, _, rfl, rfl, ⟨_, _, rfl, rfl, rfl⟩⟩⟩ := h; rfl) (fun _ => rfl) st (fun _ _ st => lexer_Tokens_ok st hx8) ?_
    intro a7 c7 T1 w7 hs1 st
    refine ⟨_, rfl, ?_⟩
    refine WO_seg 7 [(8, .slice a7 (List.length y3.1) c7), (10, .int .i64 y3.2.2)] (by kernel_rfl) (by kernel_rfl) ?_
    refine WO_end rfl ?_
    have st := st.front2
    have st := st.tail
    refine X_then ?_
    refine W_seq ?_
    refine W_region ?_
    refine WO_seg 1 [(44, .string o1.2.1)] (by kernel_rfl) (by kernel_rfl) ?_
    replace hr := bindS hr
    obtain ⟨y4, hx9, hr⟩ := hr
    refine WO_one rfl (One_fn 45 24 #[.string o1.2.1] (by kernel_rfl) rfl ?_)
    refine Calls_own (c := (cPair (cInt .i64) (cPair cStr (cPair (cInt .i64) (cInt .i64))))) (f := (fun x : Int × ByteArray × Int × Int => [.int .i64 x.1, .string x.2.1, .int .i64 x.2.2.1, .int .i64 x.2.2.2])) (V := fun A K => .tuple #[.slice A (List.length y4.1) K, .int .i64 y4.2.1, .int .i64 y4.2.2]) (l := y4.1) (e := 42) (fun _ _ _ h => by obtain ⟨_, _, rfl, rfl, ⟨_, _, rfl, rfl, ⟨_, _, rfl, rfl, rfl⟩⟩⟩ := h; rfl) (fun _ => rfl) st (fun _ _ st => lexer_Tokens_ok st hx9) ?_
    intro a8 c8 T2 w8 hs2 st
    refine ⟨_, rfl, ?_⟩
    refine WO_seg 7 [(11, .slice a8 (List.length y4.1) c8), (13, .int .i64 y4.2.2)] (by kernel_rfl) (by kernel_rfl) ?_
    refine WO_end rfl ?_
    refine X_then ?_
    refine W_seq ?_
    refine W_seq ?_
    refine W_region ?_
    replace hr := bindS hr
    obtain ⟨o2, hr, hrK⟩ := hr
    refine WO_cut (j := 10) (fun L' w' => ∃ (m9 : Mem), L' = [(8, .slice a7 (List.length y3.1) c7), (11, .slice a8 (List.length y4.1) c8), (58, .bool o2)] ∧ m.le m9 ∧ St m9 (.blk b1 (.cells #[.slice a4 (List.length o1.2.2.1) c4, .int .i64 o1.2.2.2] 29 (0, 0)) :: opc a8 (acellsM (fun x : Int × ByteArray × Int × Int => [.int .i64 x.1, .string x.2.1, .int .i64 x.2.2.1, .int .i64 x.2.2.2]) y4.1 T2) 42 :: opc a7 (acellsM (fun x : Int × ByteArray × Int × Int => [.int .i64 x.1, .string x.2.1, .int .i64 x.2.2.1, .int .i64 x.2.2.2]) y3.1 T1) 42 :: own) w' ∧ RepS (cInt .i64) m9 a4 c4 o1.2.2.1 ∧ List.length y4.1 = (List.length y4.1) ∧ List.length y3.1 = (List.length y3.1)) ?_ ?_
    · clear hr st
      have hr := hrK
      clear hrK
      rintro _ w9 ⟨m9, rfl, hm, st, r4, _, _⟩
      refine WO_end rfl ?_
      refine X_then ?_
      refine W_cond o2 (by kernel_rfl) ?_ ?_
      · intro hc
        rw [if_pos hc] at hr
        refine W_seq ?_
        refine W_region ?_
        refine WO_seg 1 [(2, .bool false)] (by kernel_rfl) (by kernel_rfl) ?_
        refine WO_end rfl ?_
        refine X_then ?_
        refine W_ret ?_
        refine X_then_ret ?_
        obtain rfl := Option.some.inj hr
        refine X_ret [.tmp 2] [.bool false] rfl (ResAll.cons (ResAt.tmp (by kernel_rfl)) ResAll.nil) ?_
        have st := st.tail
        have st := st.tail
        have st := st.tail
        exact ⟨m9, rfl, hm, st⟩
      · intro hc
        rw [if_neg (not_true hc)] at hr
        refine W_skip ?_
        refine X_then ?_
        refine W_seq ?_
        refine W_seq ?_
        refine W_region ?_
        refine WO_seg 3 [(60, .int .i64 ((List.length y3.1) : Int)), (61, .int .i64 0)] (by kernel_rfl) (by kernel_rfl) ?_
        refine WO_end rfl ?_
        refine X_then ?_
        refine W_block ?_
        replace hr := bindS hr
        obtain ⟨out2, hr, hrKu2⟩ := hr
        refine W_cut (.exit 2) (fun L' w' => ∃ (o3 : (List (Int × ByteArray × Int × Int)) × (List (Int × ByteArray × Int × Int))) (m10 : Mem), (.inl o3) = out2 ∧ L' = [] ∧ m.le m10 ∧ St m10 (.blk b1 (.cells #[.slice a4 (List.length o1.2.2.1) c4, .int .i64 o1.2.2.2] 29 (0, 0)) :: opc a8 (acellsM (fun x : Int × ByteArray × Int × Int => [.int .i64 x.1, .string x.2.1, .int .i64 x.2.2.1, .int .i64 x.2.2.2]) o3.1 T2) 42 :: opc a7 (acellsM (fun x : Int × ByteArray × Int × Int => [.int .i64 x.1, .string x.2.1, .int .i64 x.2.2.1, .int .i64 x.2.2.2]) o3.2 T1) 42 :: own) w' ∧ RepS (cInt .i64) m10 a4 c4 o1.2.2.1 ∧ List.length o3.1 = (List.length y4.1) ∧ List.length o3.2 = (List.length y3.1)) ?_ ?_
        · clear hr st
          rintro _ w10 ⟨o3, m10, rfl, rfl, hm, st, r4, hn1, hn2⟩
          have hr := hrKu2
          clear hrKu2
          dsimp only at hr
          refine X_block_eq ?_
          refine X_then ?_
          refine W_seq ?_
          refine W_region ?_
          replace hr := bindS hr
          obtain ⟨y5, hx14, hr⟩ := hr
          refine WO_one rfl (One_fn 82 19 #[] (by kernel_rfl) rfl ?_)
          refine (testgatelaw04_awake_ok st hx14).mono ?_
          clear st
          rintro _ w15 ⟨m12, rfl, hle7, st⟩
          refine ⟨_, rfl, ?_⟩
          have hm := Mem.le_trans hm hle7
          have r4 := r4.mono hle7
          refine WO_seg 1 [(2, .bool y5)] (by kernel_rfl) (by kernel_rfl) ?_
          refine WO_end rfl ?_
          refine X_then ?_
          refine W_ret ?_
          obtain rfl := Option.some.inj hr
          refine X_ret [.tmp 2] [.bool y5] rfl (ResAll.cons (ResAt.tmp (by kernel_rfl)) ResAll.nil) ?_
          have st := st.tail
          have st := st.tail
          have st := st.tail
          exact ⟨m12, rfl, hm, st⟩
        intro K2_u2
        have st := st.front2
        have st := st.front2
        have st := st.front2
        refine W_env _ (by kernel_rfl) (W_loop (fun k2 L' w' => ∃ (s6 : Int × (List (Int × ByteArray × Int × Int)) × (List (Int × ByteArray × Int × Int))) (m11 : Mem), loopM (testgatelaw04_LexerBlanks_L2 N y3) k2 s6 = some out2 ∧ L' = [(8, .slice a7 (List.length y3.1) c7), (11, .slice a8 (List.length y4.1) c8), (60, .int .i64 ((List.length y3.1) : Int)), (61, .int .i64 s6.1)] ∧ m.le m11 ∧ St m11 (.blk b1 (.cells #[.slice a4 (List.length o1.2.2.1) c4, .int .i64 o1.2.2.2] 29 (0, 0)) :: opc a8 (acellsM (fun x : Int × ByteArray × Int × Int => [.int .i64 x.1, .string x.2.1, .int .i64 x.2.2.1, .int .i64 x.2.2.2]) s6.2.1 T2) 42 :: opc a7 (acellsM (fun x : Int × ByteArray × Int × Int => [.int .i64 x.1, .string x.2.1, .int .i64 x.2.2.1, .int .i64 x.2.2.2]) s6.2.2 T1) 42 :: own) w' ∧ RepS (cInt .i64) m11 a4 c4 o1.2.2.1 ∧ List.length s6.2.1 = (List.length y4.1) ∧ List.length s6.2.2 = (List.length y3.1)) N ⟨(0, y4.1, y3.1), m9, hr, rfl, hm, st, r4, rfl, rfl⟩ ?_)
        clear st hr
        rintro k2 _ w11 ⟨s6, m11, hL, rfl, hm, st, r4, hn3, hn4⟩
        rcases k2 with _ | k2
        · exact loopM_zero hL
        · obtain ⟨qu2, hr, hSu2, hBu2⟩ := loopM_succ hL
          clear hL
          unfold testgatelaw04_LexerBlanks_L2 at hr
          refine W_seq ?_
          refine W_region ?_
          refine WO_seg 1 [(62, .bool (decide (s6.1 < ((List.length y3.1) : Int))))] (by kernel_rfl) (by kernel_rfl) ?_
          refine WO_end rfl ?_
          refine X_then ?_
          refine W_seq ?_
          refine W_cond (decide (s6.1 < ((List.length y3.1) : Int))) (by kernel_rfl) ?_ ?_
          · intro hc
            rw [if_pos hc] at hr
            refine W_skip ?_
            refine X_then ?_
            refine W_seq ?_
            refine W_block ?_
            refine W_seq ?_
            refine W_region ?_
            refine WO_seg 2 [(14, .int .i64 s6.1)] (by kernel_rfl) (by kernel_rfl) ?_
            refine WO_end rfl ?_
            refine X_then ?_
            refine W_seq ?_
            refine W_region ?_
            refine WO_seg 4 [(64, .slice a7 (List.length y3.1) c7), (65, .int .i64 s6.1), (66, .slice a8 (List.length y4.1) c8), (67, .int .i64 s6.1)] (by kernel_rfl) (by kernel_rfl) ?_
            replace hr := bindS hr
            obtain ⟨x2, hx10, hr⟩ := hr
            refine WO_one rfl (One_arrIndexM (d := 68) (t := 37) (e := 42) (x := (.tmp 64)) (y := (.tmp 65)) (k := 4) (by kernel_rfl) rfl (show evL _ _ = some (.slice a7 (List.length y3.1) c7) from (by kernel_rfl)) (show evL _ _ = some (.int .i64 s6.1) from (by kernel_rfl)) (by kernel_rfl) hs1 hn4 hx10 ?_)
            refine WO_seg 1 [(69, .pointer (some ⟨ab a7, Int.toNat s6.1 * 4 + 3, none⟩))] (by kernel_rfl) (by kernel_rfl) ?_
            have st := st.front2
            refine WO_one rfl (One_arrStoreM (t := 3) (x := (.tmp 69)) (y := (.const (.int .i64 0))) (o := 3) (f := (fun x : Int × ByteArray × Int × Int => [.int .i64 x.1, .string x.2.1, .int .i64 x.2.2.1, .int .i64 x.2.2.2])) (z := x2) (u := (x2.1, x2.2.1, x2.2.2.1, 0)) (v := .int .i64 0) (fun _ => rfl) (Int.toNat s6.1 * 4 + 3) rfl (by kernel_rfl) (show evL _ _ = some (.pointer (some ⟨ab a7, Int.toNat s6.1 * 4 + 3, none⟩)) from (by kernel_rfl)) (show evL _ _ = some (.int .i64 0) from (by kernel_rfl)) st hs1 hn4 hx10 (by kernel_rfl) rfl ?_)
            clear st
            intro w12 st
            have hn5 : List.length (List.set s6.2.2 (Int.toNat s6.1) (x2.1, x2.2.1, x2.2.2.1, 0)) = (List.length y3.1) := set_len hn4 _ _
            replace hr := bindS hr
            obtain ⟨x3, hx11, hr⟩ := hr
            refine WO_one rfl (One_arrIndexM (d := 70) (t := 37) (e := 42) (x := (.tmp 66)) (y := (.tmp 67)) (k := 4) (by kernel_rfl) rfl (show evL _ _ = some (.slice a8 (List.length y4.1) c8) from (by kernel_rfl)) (show evL _ _ = some (.int .i64 s6.1) from (by kernel_rfl)) (by kernel_rfl) hs2 hn3 hx11 ?_)
            refine WO_seg 1 [(71, .pointer (some ⟨ab a8, Int.toNat s6.1 * 4 + 3, none⟩))] (by kernel_rfl) (by kernel_rfl) ?_
            have st := st.front2
            refine WO_one rfl (One_arrStoreM (t := 3) (x := (.tmp 71)) (y := (.const (.int .i64 0))) (o := 3) (f := (fun x : Int × ByteArray × Int × Int => [.int .i64 x.1, .string x.2.1, .int .i64 x.2.2.1, .int .i64 x.2.2.2])) (z := x3) (u := (x3.1, x3.2.1, x3.2.2.1, 0)) (v := .int .i64 0) (fun _ => rfl) (Int.toNat s6.1 * 4 + 3) rfl (by kernel_rfl) (show evL _ _ = some (.pointer (some ⟨ab a8, Int.toNat s6.1 * 4 + 3, none⟩)) from (by kernel_rfl)) (show evL _ _ = some (.int .i64 0) from (by kernel_rfl)) st hs2 hn3 hx11 (by kernel_rfl) rfl ?_)
            clear st
            intro w13 st
            have hn6 : List.length (List.set s6.2.1 (Int.toNat s6.1) (x3.1, x3.2.1, x3.2.2.1, 0)) = (List.length y4.1) := set_len hn3 _ _
            refine WO_end rfl ?_
            refine X_then ?_
            refine W_seq ?_
            refine W_draw [(9, fun w' => Inv m11 w' ∧ Piece.holds m11 w' (opc a8 (acellsM (fun x : Int × ByteArray × Int × Int => [.int .i64 x.1, .string x.2.1, .int .i64 x.2.2.1, .int .i64 x.2.2.2]) (List.set s6.2.1 (Int.toNat s6.1) (x3.1, x3.2.1, x3.2.2.1, 0)) T2) 42) ∧ Piece.holds m11 w' (opc a7 (acellsM (fun x : Int × ByteArray × Int × Int => [.int .i64 x.1, .string x.2.1, .int .i64 x.2.2.1, .int .i64 x.2.2.2]) (List.set s6.2.2 (Int.toNat s6.1) (x2.1, x2.2.1, x2.2.2.1, 0)) T1) 42) ∧ True)] (by kernel_rfl) st ?_
            clear st
            intro w14 _ st
            have hmS1 := m11.le_refl
            refine ⟨⟨.inr ⟨Inv.anti st.inv hmS1, opc_anti st.head hmS1, opc_anti st.tail.head hmS1, trivial⟩, trivial⟩, ?_⟩
            refine WA_pure 0 72 (.slice a7 (List.length y3.1) c7) (by kernel_rfl) rfl (by kernel_rfl) (.head _) (QP_then (QP_block (QP_then (QP_then (QP_block (QP_then QP_body)))))) ?_
            refine WA_pure 1 73 (.int .i64 s6.1) (by kernel_rfl) rfl (by kernel_rfl) (.head _) (QP_then (QP_block (QP_then (QP_then (QP_block (QP_then QP_body)))))) ?_
            replace hr := bindS hr
            obtain ⟨x4, hx12, hr⟩ := hr
            refine WA_arrIndexM (t := 37) (e := 42) (x := (.tmp 72)) (y := (.tmp 73)) (k := 4) 2 74 (by kernel_rfl) rfl (by kernel_rfl) (.head _) (QP_then (QP_block (QP_then (QP_then (QP_block (QP_then QP_body)))))) (show evL _ _ = some (.slice a7 (List.length y3.1) c7) from (by kernel_rfl)) (show evL _ _ = some (.int .i64 s6.1) from (by kernel_rfl)) (by kernel_rfl) hs1 hn5 hx12 ?_
            refine WA_arrLoadM (t := 42) (x := (.tmp 74)) (o := 0) (f := (fun x : Int × ByteArray × Int × Int => [.int .i64 x.1, .string x.2.1, .int .i64 x.2.2.1, .int .i64 x.2.2.2])) (z := x4) (v := .agg #[.int .i64 x4.1, .string x4.2.1, .int .i64 x4.2.2.1, .int .i64 x4.2.2.2]) 3 75 (fun _ => rfl) (Int.toNat s6.1 * 4) rfl (by kernel_rfl) rfl (by kernel_rfl) (.head _) (QP_then (QP_block (QP_then (QP_then (QP_block (QP_then QP_body)))))) (fun _ h => h.2.2.1) (show evL _ _ = some (.pointer (some ⟨ab a7, Int.toNat s6.1 * 4, none⟩)) from (by kernel_rfl)) hs1 hn5 hx12 (by kernel_rfl) ?_
            refine WA_pure 4 76 (.slice a8 (List.length y4.1) c8) (by kernel_rfl) rfl (by kernel_rfl) (.head _) (QP_then (QP_block (QP_then (QP_then (QP_block (QP_then QP_body)))))) ?_
            refine WA_pure 5 77 (.int .i64 s6.1) (by kernel_rfl) rfl (by kernel_rfl) (.head _) (QP_then (QP_block (QP_then (QP_then (QP_block (QP_then QP_body)))))) ?_
            replace hr := bindS hr
            obtain ⟨x5, hx13, hr⟩ := hr
            refine WA_arrIndexM (t := 37) (e := 42) (x := (.tmp 76)) (y := (.tmp 77)) (k := 4) 6 78 (by kernel_rfl) rfl (by kernel_rfl) (.head _) (QP_then (QP_block (QP_then (QP_then (QP_block (QP_then QP_body)))))) (show evL _ _ = some (.slice a8 (List.length y4.1) c8) from (by kernel_rfl)) (show evL _ _ = some (.int .i64 s6.1) from (by kernel_rfl)) (by kernel_rfl) hs2 hn6 hx13 ?_
            refine WA_arrLoadM (t := 42) (x := (.tmp 78)) (o := 0) (f := (fun x : Int × ByteArray × Int × Int => [.int .i64 x.1, .string x.2.1, .int .i64 x.2.2.1, .int .i64 x.2.2.2])) (z := x5) (v := .agg #[.int .i64 x5.1, .string x5.2.1, .int .i64 x5.2.2.1, .int .i64 x5.2.2.2]) 7 79 (fun _ => rfl) (Int.toNat s6.1 * 4) rfl (by kernel_rfl) rfl (by kernel_rfl) (.head _) (QP_then (QP_block (QP_then (QP_then (QP_block (QP_then QP_body)))))) (fun _ h => h.2.1) (show evL _ _ = some (.pointer (some ⟨ab a8, Int.toNat s6.1 * 4, none⟩)) from (by kernel_rfl)) hs2 hn6 hx13 (by kernel_rfl) ?_
            refine WA_one 8 (by kernel_rfl)  (One_neAgg (d := 80) (t := 42) (t2 := 42) (x := (.tmp 75)) (y := (.tmp 79)) (xs := #[.int .i64 x4.1, .string x4.2.1, .int .i64 x4.2.2.1, .int .i64 x4.2.2.2]) (ys := #[.int .i64 x5.1, .string x5.2.1, .int .i64 x5.2.2.1, .int .i64 x5.2.2.2]) ((x4.1 == x5.1) && ((x4.2.1.toList == x5.2.1.toList) && ((x4.2.2.1 == x5.2.2.1) && ((x4.2.2.2 == x5.2.2.2) && true)))) (by kernel_rfl) rfl (show evL _ _ = some (.agg #[.int .i64 x4.1, .string x4.2.1, .int .i64 x4.2.2.1, .int .i64 x4.2.2.2]) from (by kernel_rfl)) (show evL _ _ = some (.agg #[.int .i64 x5.1, .string x5.2.1, .int .i64 x5.2.2.1, .int .i64 x5.2.2.2]) from (by kernel_rfl)) (by kernel_rfl) (by kernel_rfl) (by kernel_rfl) ?_)
            refine ⟨⟨.inr ⟨Inv.anti st.inv hmS1, opc_anti st.head hmS1, opc_anti st.tail.head hmS1, trivial⟩, trivial⟩, ?_⟩
            refine WA_done (by kernel_rfl) ?_
            refine X_then ?_
            refine W_cond (!((x4.1 == x5.1) && ((x4.2.1.toList == x5.2.1.toList) && ((x4.2.2.1 == x5.2.2.1) && ((x4.2.2.2 == x5.2.2.2) && true))))) (by kernel_rfl) ?_ ?_
            · intro hc
              rw [if_pos hc] at hr
              refine W_seq ?_
              refine W_region ?_
              refine WO_seg 1 [(2, .bool false)] (by kernel_rfl) (by kernel_rfl) ?_
              refine WO_end rfl ?_
              refine X_then ?_
              refine W_ret ?_
              refine X_block_ret ?_
              refine X_then_ret ?_
              obtain rfl := Option.some.inj hr
              have ho := hBu2 _ rfl
              subst ho
              have hr := hrKu2
              dsimp only at hr
              refine X_then_ret ?_
              refine X_block_ret ?_
              refine X_then_ret ?_
              obtain rfl := Option.some.inj hr
              refine X_ret [.tmp 2] [.bool false] rfl (ResAll.cons (ResAt.tmp (by kernel_rfl)) ResAll.nil) ?_
              have st := st.tail
              have st := st.tail
              have st := st.tail
              exact ⟨m11, rfl, hm, st⟩
            · intro hc
              rw [if_neg (not_true hc)] at hr
              refine W_skip ?_
              refine X_block ?_
              refine X_then ?_
              refine W_region ?_
              refine WO_seg 2 [(61, .int .i64 (IntKind.wrap .i64 (s6.1 + 1)))] (by kernel_rfl) (by kernel_rfl) ?_
              refine WO_end rfl ?_
              obtain rfl := Option.some.inj hr
              have hL := hSu2 _ rfl
              have st := st.front1
              have st := st.front1
              have st := st.front2
              exact X_env _ (by kernel_rfl) (X_round k2 (Nat.lt_succ_self _) ⟨(IntKind.wrap .i64 (s6.1 + 1), List.set s6.2.1 (Int.toNat s6.1) (x3.1, x3.2.1, x3.2.2.1, 0), List.set s6.2.2 (Int.toNat s6.1) (x2.1, x2.2.1, x2.2.2.1, 0)), m11, hL, rfl, hm, st, r4, hn6, hn5⟩)
          · intro hc
            rw [if_neg (not_true hc)] at hr
            refine W_exit ?_
            refine X_then_exit ?_
            obtain rfl := Option.some.inj hr
            have ho := hBu2 _ rfl
            have st := st.front2
            have st := st.front2
            have st := st.front2
            refine X_then_exit ?_
            exact X_env _ (by kernel_rfl) (K2_u2 _ _ ⟨(s6.2.1, s6.2.2), m11, ho, rfl, hm, st, r4, hn3, hn4⟩)
    · intro K
      clear hrK
      refine WO_seg 4 [(52, .bool (y3.2.2 != y4.2.2))] (by kernel_rfl) (by kernel_rfl) ?_
      rcases bcases (y3.2.2 != y4.2.2) with hc | hc
      · rw [if_pos hc] at hr
        refine WO_fact (t := 52) (b := true) (y3.2.2 != y4.2.2) (by kernel_rfl) hc ?_
        refine WO_seg 6 [(58, .bool true)] (by kernel_rfl) (by kernel_rfl) ?_
        obtain rfl := Option.some.inj hr
        have st := st.front1
        have st := st.front1
        have st := st.front2
        exact WO_env _ (by kernel_rfl) (K _ _ ⟨m3, rfl, hm, st, r4, rfl, rfl⟩)
      · rw [if_neg (not_true hc)] at hr
        refine WO_fact (t := 52) (b := false) (y3.2.2 != y4.2.2) (by kernel_rfl) hc ?_
        refine WO_seg 6 [(58, .bool (((List.length y3.1) : Int) != ((List.length y4.1) : Int)))] (by kernel_rfl) (by kernel_rfl) ?_
        obtain rfl := Option.some.inj hr
        have st := st.front1
        have st := st.front1
        have st := st.front2
        exact WO_env _ (by kernel_rfl) (K _ _ ⟨m3, rfl, hm, st, r4, rfl, rfl⟩)
  intro K0_u1
  clear hrKu1
  have st := st.front1
  refine W_env _ (by kernel_rfl) (W_loop (fun k1 L' w' => ∃ (s1 : ByteArray × ByteArray × Int × List (Int) × Int) (a5 : Option Addr) (c5 : Nat) (m4 : Mem), loopM (testgatelaw04_LexerBlanks_L1 N y1) k1 s1 = some out1 ∧ L' = [(3, .pointer (some ⟨b1, 0, none⟩)), (4, .string s1.1), (5, .string s1.2.1), (19, .slice a3 (List.length y1.2) c3), (20, .int .i64 (List.length y1.2 : Int)), (21, .int .i64 s1.2.2.1)] ∧ m.le m4 ∧ St m4 (.blk b1 (.cells #[.slice a5 (List.length s1.2.2.2.1) c5, .int .i64 s1.2.2.2.2] 29 (0, 0)) :: .room a3 (List.length y1.2) c3 9 1 :: own) w' ∧ RepS cStr m4 a3 c3 y1.2 ∧ RepS (cInt .i64) m4 a5 c5 s1.2.2.2.1) N ⟨((⟨#[]⟩ : ByteArray), (⟨#[]⟩ : ByteArray), 0, y1.1.1, y1.1.2), a2, c2, m2, hr, rfl, hm, st, r3, r2⟩ ?_)
  clear st hr
  rintro k1 _ w4 ⟨s1, a5, c5, m4, hL, rfl, hm, st, r3, r5⟩
  rcases k1 with _ | k1
  · exact loopM_zero hL
  · obtain ⟨qu1, hr, hSu1, hBu1⟩ := loopM_succ hL
    clear hL
    unfold testgatelaw04_LexerBlanks_L1 at hr
    refine W_seq ?_
    refine W_region ?_
    refine WO_seg 1 [(22, .bool (decide (s1.2.2.1 < (List.length y1.2 : Int))))] (by kernel_rfl) (by kernel_rfl) ?_
    refine WO_end rfl ?_
    refine X_then ?_
    refine W_seq ?_
    refine W_cond (decide (s1.2.2.1 < (List.length y1.2 : Int))) (by kernel_rfl) ?_ ?_
    · intro hc
      rw [if_pos hc] at hr
      refine W_skip ?_
      refine X_then ?_
      refine W_seq ?_
      refine W_block ?_
      refine W_seq ?_
      refine W_region ?_
      replace hr := bindS hr
      obtain ⟨x1, hx2, hr⟩ := hr
      refine WO_one rfl (One_index (d := 23) (t := 30) (e := 9) (x := (.tmp 19)) (y := (.tmp 21)) cStr (by kernel_rfl) rfl (show evL _ _ = some (.slice a3 (List.length y1.2) c3) from (by kernel_rfl)) (show evL _ _ = some (.int .i64 s1.2.2.1) from (by kernel_rfl)) (by kernel_rfl) r3 hx2 ?_)
      rintro b2 f1 cs1 rfl hq1
      refine WO_one rfl (One_load_row (d := 24) (t := 9) (x := (.tmp 23)) (.string x1) (by kernel_rfl) rfl (show evL _ _ = some (.pointer (some ⟨b2, f1, none⟩)) from (by kernel_rfl)) st hq1 (by kernel_rfl) ?_)
      refine WO_seg 1 [(7, .string x1)] (by kernel_rfl) (by kernel_rfl) ?_
      refine WO_end rfl ?_
      refine X_then ?_
      refine W_seq ?_
      refine W_region ?_
      refine WO_seg 2 [(25, .string s1.1), (26, .string x1)] (by kernel_rfl) (by kernel_rfl) ?_
      replace hr := bindS hr
      obtain ⟨s2, hx3, hr⟩ := hr
      refine WO_one rfl (One_cat (d := 27) (t := 9) (t2 := 9) (x := (.const (.string (⟨#[32]⟩ : ByteArray)))) (y := (.tmp 26)) (by kernel_rfl) rfl (show evL _ _ = some (.string (⟨#[32]⟩ : ByteArray)) from (by kernel_rfl)) (show evL _ _ = some (.string x1) from (by kernel_rfl)) hx3 ?_)
      replace hr := bindS hr
      obtain ⟨s3, hx4, hr⟩ := hr
      refine WO_one rfl (One_cat (d := 28) (t := 9) (t2 := 9) (x := (.tmp 25)) (y := (.tmp 27)) (by kernel_rfl) rfl (show evL _ _ = some (.string s1.1) from (by kernel_rfl)) (show evL _ _ = some (.string s2) from (by kernel_rfl)) hx4 ?_)
      refine WO_seg 1 [(4, .string s3)] (by kernel_rfl) (by kernel_rfl) ?_
      refine WO_end rfl ?_
      refine X_then ?_
      refine W_region ?_
      refine WO_seg 2 [(29, .string s1.2.1), (30, .pointer (some ⟨b1, 0, none⟩))] (by kernel_rfl) (by kernel_rfl) ?_
      refine WO_one rfl (One_buildSlice (d := 31) (t := 30) (e := 9) (len := 5) (parts := #[(0, (.const (.string (⟨#[32]⟩ : ByteArray)))), (1, (.const (.string (⟨#[10, 10]⟩ : ByteArray)))), (2, (.const (.string (⟨#[9]⟩ : ByteArray)))), (3, (.const (.string (⟨#[32, 35, 32, 99, 32, 59, 32, 10]⟩ : ByteArray)))), (4, (.const (.string (⟨#[13]⟩ : ByteArray))))]) cStr (xs := [(⟨#[32]⟩ : ByteArray), (⟨#[10, 10]⟩ : ByteArray), (⟨#[9]⟩ : ByteArray), (⟨#[32, 35, 32, 99, 32, 59, 32, 10]⟩ : ByteArray), (⟨#[13]⟩ : ByteArray)]) [.string (⟨#[32]⟩ : ByteArray), .string (⟨#[10, 10]⟩ : ByteArray), .string (⟨#[9]⟩ : ByteArray), .string (⟨#[32, 35, 32, 99, 32, 59, 32, 10]⟩ : ByteArray), .string (⟨#[13]⟩ : ByteArray)] (by kernel_rfl) rfl (fun _ => buildCells_run (by kernel_rfl) _) rfl rfl st ⟨[.string (⟨#[32]⟩ : ByteArray)], _, rfl, rfl, ⟨[.string (⟨#[10, 10]⟩ : ByteArray)], _, rfl, rfl, ⟨[.string (⟨#[9]⟩ : ByteArray)], _, rfl, rfl, ⟨[.string (⟨#[32, 35, 32, 99, 32, 59, 32, 10]⟩ : ByteArray)], _, rfl, rfl, ⟨[.string (⟨#[13]⟩ : ByteArray)], _, rfl, rfl, rfl⟩⟩⟩⟩⟩ ?_)
      clear st
      intro b3 m5 w5 hle3 st r6
      have hm := Mem.le_trans hm hle3
      have r3 := r3.mono hle3
      have r5 := r5.mono hle3
      have st := st.front1
      replace hr := bindS hr
      obtain ⟨y2, hx5, hr⟩ := hr
      refine WO_one rfl (One_fn 32 21 #[.pointer (some ⟨b1, 0, none⟩), .slice (some ⟨b3, 0, none⟩) (List.length ([(⟨#[32]⟩ : ByteArray), (⟨#[10, 10]⟩ : ByteArray), (⟨#[9]⟩ : ByteArray), (⟨#[32, 35, 32, 99, 32, 59, 32, 10]⟩ : ByteArray), (⟨#[13]⟩ : ByteArray)])) 5] (by kernel_rfl) rfl ?_)
      refine (testgatemake_Tape_One_ok st r5 r6 hx5).mono ?_
      clear st
      rintro _ w6 ⟨a6, c6, m6, rfl, hle4, st, r7⟩
      refine ⟨_, rfl, ?_⟩
      have hm := Mem.le_trans hm hle4
      have r3 := r3.mono hle4
      have r6 := r6.mono hle4
      have r5 := r5.mono hle4
      refine WO_seg 1 [(33, .string x1)] (by kernel_rfl) (by kernel_rfl) ?_
      replace hr := bindS hr
      obtain ⟨s4, hx6, hr⟩ := hr
      refine WO_one rfl (One_cat (d := 34) (t := 9) (t2 := 9) (x := (.tmp 32)) (y := (.tmp 33)) (by kernel_rfl) rfl (show evL _ _ = some (.string y2.2) from (by kernel_rfl)) (show evL _ _ = some (.string x1) from (by kernel_rfl)) hx6 ?_)
      replace hr := bindS hr
      obtain ⟨s5, hx7, hr⟩ := hr
      refine WO_one rfl (One_cat (d := 35) (t := 9) (t2 := 9) (x := (.tmp 29)) (y := (.tmp 34)) (by kernel_rfl) rfl (show evL _ _ = some (.string s1.2.1) from (by kernel_rfl)) (show evL _ _ = some (.string s4) from (by kernel_rfl)) hx7 ?_)
      refine WO_seg 1 [(5, .string s5)] (by kernel_rfl) (by kernel_rfl) ?_
      refine WO_end rfl ?_
      have st := st.front1
      have st := st.tail
      refine X_block ?_
      refine X_then ?_
      refine W_region ?_
      refine WO_seg 2 [(21, .int .i64 (IntKind.wrap .i64 (s1.2.2.1 + 1)))] (by kernel_rfl) (by kernel_rfl) ?_
      refine WO_end rfl ?_
      obtain rfl := Option.some.inj hr
      have hL := hSu1 _ rfl
      have st := st.front1
      have st := st.front1
      exact X_env _ (by kernel_rfl) (X_round k1 (Nat.lt_succ_self _) ⟨(s3, s5, IntKind.wrap .i64 (s1.2.2.1 + 1), y2.1.1, y2.1.2), a6, c6, m6, hL, rfl, hm, st, r3, r7⟩)
    · intro hc
      rw [if_neg (not_true hc)] at hr
      refine W_exit ?_
      refine X_then_exit ?_
      obtain rfl := Option.some.inj hr
      have ho := hBu1 _ rfl
      have st := st.front1
      have st := st.front1
      refine X_then_exit ?_
      exact X_env _ (by kernel_rfl) (K0_u1 _ _ ⟨(s1.1, s1.2.1, s1.2.2.2.1, s1.2.2.2.2), a5, c5, m4, ho, rfl, hm, st, r5⟩)

end Go.Proofs.YtfodebccikifcaaDoor
