/- MADE BY gen.py: plain functions and the proofs that the Go functions compute them. No condition but those of each theorem. -/
import Derived.Test.YtgggihpbhmbjaaaDoorProg
import Derived.Test.YtgggihpbhmbjaaaDoorViewk3
import Derived.Test.YtgggihpbhmbjaaaDoorMapDk3
import Derived.Test.YtgggihpbhmbjaaaDoorLink3
namespace Go.Proofs.YtgggihpbhmbjaaaDoor
open Go Go.Dc
def testgatemake_Fold (N : Nat) (p0 : Int) (p1 : Int) : Option (Int) :=
 if (decide (p1 ≤ 1)) = true then (some 0) else ((remS p0 p1).bind fun i1 => (if (decide (i1 < 0)) = true then (some (IntKind.wrap .i64 (i1 + p1))) else (some i1) : Option (Int)).bind fun o1 => some o1)
set_option maxHeartbeats 4000000 in
set_option maxRecDepth 100000 in
theorem testgatemake_Fold_ok {N : Nat} {m : Mem} {own : List Piece} {w : World} {p0 : Int} {p1 : Int} {r : Int} (st : St m (own) w) (hr : testgatemake_Fold N p0 p1 = some r) : Calls Tryd.prog 32 #[.int .i64 p0, .int .i64 p1] w fun e w' => ∃ (m' : Mem), e = .returned (.int .i64 r) ∧ m.le m' ∧ St m' (own) w' := by
 unfold testgatemake_Fold at hr
 have hm := m.le_refl
 refine W_calls Tryd.func32 rfl Tryd.ntmps32 [(0, .int .i64 p0), (1, .int .i64 p1)] kr rfl ?_
 refine W_sr (WO_seg 1 [] kr kr ?_)
 refine WO_et rfl (W_seq ?_)
 refine W_sr (WO_seg 2 [(6, .bool (decide (p1 ≤ 1)))] kr kr ?_)
 refine WO_et rfl (W_cond (decide (p1 ≤ 1)) kr ?_ ?_)
 ·intro hc
  rw [if_pos hc] at hr
  refine W_sr (WO_seg 1 [(4, .int .i64 0)] kr kr ?_)
  refine WO_et rfl (W_ret ?_)
  refine X_then_ret ?_
  obtain rfl := Option.some.inj hr
  refine X_ret [.tmp 4] [.int .i64 0] rfl (ResAll.cons (ResAt.tmp kr) ResAll.nil) ?_
  exact ⟨m, rfl, hm, st⟩
 ·intro hc
  rw [if_neg (not_true hc)] at hr
  refine W_skip ?_
  refine X_then ?_
  refine W_sr (WO_seg 2 [(7, .int .i64 p0), (8, .int .i64 p1)] kr kr ?_)
  replace ⟨i1, hx1, hr⟩ := bindS hr
  refine WO_one rfl (One_rem (d := 9) (t := 3) (t2 := 3) (x := (.tmp 7)) (y := (.tmp 8)) kr rfl (ev (.int .i64 p0)) (ev (.int .i64 p1)) hx1 ?_)
  refine WO_seg 1 [(0, .int .i64 i1)] kr kr ?_
  refine WO_et rfl (W_seq ?_)
  refine W_sr (WO_seg 2 [(11, .bool (decide (i1 < 0)))] kr kr ?_)
  refine WO_et rfl ?_
  replace ⟨o1, hr, hrKu1⟩ := bindS hr
  refine W_cut .normal (fun L' w' => ∃ (m1 : Mem), L' = [(0, .int .i64 o1)] ∧ m.le m1 ∧ St m1 (own) w') ?_ ?_
  ·clear hr st
   have hr := hrKu1
   clear hrKu1
   rintro _ w1 ⟨m1, rfl, hm, st⟩
   refine X_then ?_
   refine W_sr (WO_seg 2 [(4, .int .i64 o1)] kr kr ?_)
   refine WO_et rfl (W_ret ?_)
   obtain rfl := Option.some.inj hr
   refine X_ret [.tmp 4] [.int .i64 o1] rfl (ResAll.cons (ResAt.tmp kr) ResAll.nil) ?_
   exact ⟨m1, rfl, hm, st⟩
  ·intro Ku1
   clear hrKu1
   refine W_cond (decide (i1 < 0)) kr ?_ ?_
   ·intro hc
    rw [if_pos hc] at hr
    refine W_region ?_
    refine WO_seg 4 [(0, .int .i64 (IntKind.wrap .i64 (i1 + p1)))] kr kr ?_
    refine WO_end rfl ?_
    obtain rfl := Option.some.inj hr
    exact X_env _ kr (Ku1 _ _ ⟨m, rfl, hm, st⟩)
   ·intro hc
    rw [if_neg (not_true hc)] at hr
    refine W_skip ?_
    obtain rfl := Option.some.inj hr
    exact X_env _ kr (Ku1 _ _ ⟨m, rfl, hm, st⟩)
def testgatemake_Tape_Next (N : Nat) (p0 : List Int × Int) (p1 : Int) : Option ((List Int × Int) × Int) :=
 (if (decide (p0.2 < (List.length p0.1 : Int))) = true then ((idx p0.1 p0.2).bind fun x1 => some x1) else (some (Int.tmod (IntKind.wrap .i64 (p0.2 * 7)) 11)) : Option (Int)).bind fun o1 => (testgatemake_Fold N o1 p1).bind fun y1 => some ((p0.1, IntKind.wrap .i64 (p0.2 + 1)), y1)
set_option maxHeartbeats 4000000 in
set_option maxRecDepth 100000 in
theorem testgatemake_Tape_Next_ok {N : Nat} {m : Mem} {own : List Piece} {w : World} {p0 : List Int × Int} {p1 : Int} {bp0 : Nat} {a1 : Option Addr} {c1 : Nat} {r : (List Int × Int) × Int} (st : St m (.blk bp0 (.cells #[.slice a1 (List.length p0.1) c1, .int .i64 p0.2] 26 (0, 0)) :: own) w) (r1 : RepS (cInt .i64) m a1 c1 p0.1) (hr : testgatemake_Tape_Next N p0 p1 = some r) : Calls Tryd.prog 7 #[.pointer (some ⟨bp0, 0, none⟩), .int .i64 p1] w fun e w' => ∃ (ra1 : Option Addr) (rc1 : Nat) (m' : Mem), e = .returned (.int .i64 r.2) ∧ m.le m' ∧ St m' (.blk bp0 (.cells #[.slice ra1 (List.length r.1.1) rc1, .int .i64 r.1.2] 26 (0, 0)) :: own) w' ∧ RepS (cInt .i64) m' ra1 rc1 r.1.1 := by
 unfold testgatemake_Tape_Next at hr
 have hm := m.le_refl
 refine W_calls Tryd.func7 rfl Tryd.ntmps7 [(0, .pointer (some ⟨bp0, 0, none⟩)), (1, .int .i64 p1)] kr rfl ?_
 refine W_sr (WO_seg 1 [] kr kr ?_)
 refine WO_et rfl (W_sr ?_)
 refine WO_seg 3 [(8, .pointer (some ⟨bp0, 1, none⟩))] kr kr ?_
 refine WO_one rfl (One_load_own (d := 9) (t := 3) (x := (.tmp 8)) (.int .i64 p0.2) kr rfl (ev (.pointer (some ⟨bp0, 1, none⟩))) st.head kr ?_)
 refine WO_seg 3 [(5, .int .i64 (Int.tmod (IntKind.wrap .i64 (p0.2 * 7)) 11))] kr kr ?_
 refine WO_et rfl (W_seq ?_)
 refine W_seq ?_
 refine W_draw [(10, fun w' => Inv m w' ∧ Piece.holds m w' (.blk bp0 (.cells #[.slice a1 (List.length p0.1) c1, .int .i64 p0.2] 26 (0, 0))) ∧ True)] kr st ?_
 clear st
 intro w1 _ st
 have hmS1 := m.le_refl
 refine ⟨⟨.inr ⟨Inv.anti st.inv hmS1, Piece.holds_anti st.head hmS1, trivial⟩, trivial⟩, ?_⟩
 refine WA_pure 0 12 (.pointer (some ⟨bp0, 0, none⟩)) kr rfl kr (.head _) (QP_then (QP_then QP_body)) ?_
 refine WA_pure 1 13 (.pointer (some ⟨bp0, 0, none⟩)) kr rfl kr (.head _) (QP_then (QP_then QP_body)) ?_
 refine WA_pure 2 14 (.pointer (some ⟨bp0, 1, none⟩)) kr rfl kr (.head _) (QP_then (QP_then QP_body)) ?_
 refine WA_load_own (t := 3) (x := (.tmp 14)) 3 15 (.int .i64 p0.2) kr rfl kr (.head _) (QP_then (QP_then QP_body)) (fun _ h => h.2.1) (ev (.pointer (some ⟨bp0, 1, none⟩))) kr ?_
 refine WA_pure 4 16 (.pointer (some ⟨bp0, 0, none⟩)) kr rfl kr (.head _) (QP_then (QP_then QP_body)) ?_
 refine WA_pure 5 17 (.pointer (some ⟨bp0, 0, none⟩)) kr rfl kr (.head _) (QP_then (QP_then QP_body)) ?_
 refine WA_pure 6 18 (.pointer (some ⟨bp0, 0, none⟩)) kr rfl kr (.head _) (QP_then (QP_then QP_body)) ?_
 refine WA_load_own (t := 22) (x := (.tmp 18)) 7 19 (.slice a1 (List.length p0.1) c1) kr rfl kr (.head _) (QP_then (QP_then QP_body)) (fun _ h => h.2.1) (ev (.pointer (some ⟨bp0, 0, none⟩))) kr ?_
 refine WA_pure 8 20 (.int .i64 (List.length p0.1 : Int)) kr rfl kr (.head _) (QP_then (QP_then QP_body)) ?_
 refine WA_pure 9 21 (.bool (decide (p0.2 < (List.length p0.1 : Int)))) kr rfl kr (.head _) (QP_then (QP_then QP_body)) ?_
 refine WA_done kr ?_
 refine X_then ?_
 replace ⟨o1, hr, hrKu1⟩ := bindS hr
 refine W_cut .normal (fun L' w' => ∃ (m1 : Mem), L' = [(0, .pointer (some ⟨bp0, 0, none⟩)), (1, .int .i64 p1), (5, .int .i64 o1)] ∧ m.le m1 ∧ St m1 (.blk bp0 (.cells #[.slice a1 (List.length p0.1) c1, .int .i64 p0.2] 26 (0, 0)) :: own) w' ∧ RepS (cInt .i64) m1 a1 c1 p0.1) ?_ ?_
 ·clear hr st
  have hr := hrKu1
  clear hrKu1
  rintro _ w2 ⟨m1, rfl, hm, st, r1⟩
  refine X_then ?_
  refine W_sr (WO_seg 3 [(32, .pointer (some ⟨bp0, 0, none⟩)), (34, .pointer (some ⟨bp0, 1, none⟩))] kr kr ?_)
  refine WO_one rfl (One_load_own (d := 35) (t := 3) (x := (.tmp 34)) (.int .i64 p0.2) kr rfl (ev (.pointer (some ⟨bp0, 1, none⟩))) st.head kr ?_)
  refine WO_seg 3 [(36, .int .i64 (IntKind.wrap .i64 (p0.2 + 1))), (38, .pointer (some ⟨bp0, 1, none⟩))] kr kr ?_
  refine WO_one rfl (One_store (t := 3) (x := (.tmp 38)) (y := (.tmp 36)) (v := .int .i64 (IntKind.wrap .i64 (p0.2 + 1))) (c' := #[.slice a1 (List.length p0.1) c1, .int .i64 (IntKind.wrap .i64 (p0.2 + 1))]) kr (ev (.pointer (some ⟨bp0, 1, none⟩))) (ev (.int .i64 (IntKind.wrap .i64 (p0.2 + 1)))) st kr kr ?_)
  clear st
  intro w4 st
  refine WO_et rfl (W_sr ?_)
  refine WO_seg 2 [(39, .int .i64 o1), (40, .int .i64 p1)] kr kr ?_
  replace ⟨y1, hx2, hr⟩ := bindS hr
  refine WO_one rfl (One_fn 41 32 #[.int .i64 o1, .int .i64 p1] kr rfl ?_)
  refine (testgatemake_Fold_ok st hx2).mono ?_
  clear st
  rintro _ w5 ⟨m2, rfl, hle1, st⟩
  refine ⟨_, rfl, ?_⟩
  have hm := Mem.le_trans hm hle1
  have r1 := r1.mono hle1
  refine WO_seg 1 [(4, .int .i64 y1)] kr kr ?_
  refine WO_et rfl (W_ret ?_)
  obtain rfl := Option.some.inj hr
  refine X_ret [.tmp 4] [.int .i64 y1] rfl (ResAll.cons (ResAt.tmp kr) ResAll.nil) ?_
  exact ⟨a1, c1, m2, rfl, hm, st, r1⟩
 ·intro Ku1
  clear hrKu1
  refine W_cond (decide (p0.2 < (List.length p0.1 : Int))) kr ?_ ?_
  ·intro hc
   rw [if_pos hc] at hr
   refine W_draw [(11, fun w' => Inv m w' ∧ Piece.holds m w' (.blk bp0 (.cells #[.slice a1 (List.length p0.1) c1, .int .i64 p0.2] 26 (0, 0))) ∧ True)] kr st ?_
   clear st
   intro w3 _ st
   have hmS2 := m.le_refl
   refine ⟨⟨.inr ⟨Inv.anti st.inv hmS2, Piece.holds_anti st.head hmS2, trivial⟩, trivial⟩, ?_⟩
   refine WA_pure 0 22 (.pointer (some ⟨bp0, 0, none⟩)) kr rfl kr (.head _) (QP_then QP_body) ?_
   refine WA_pure 1 23 (.pointer (some ⟨bp0, 0, none⟩)) kr rfl kr (.head _) (QP_then QP_body) ?_
   refine WA_pure 2 24 (.pointer (some ⟨bp0, 0, none⟩)) kr rfl kr (.head _) (QP_then QP_body) ?_
   refine WA_load_own (t := 22) (x := (.tmp 24)) 3 25 (.slice a1 (List.length p0.1) c1) kr rfl kr (.head _) (QP_then QP_body) (fun _ h => h.2.1) (ev (.pointer (some ⟨bp0, 0, none⟩))) kr ?_
   refine WA_pure 4 26 (.pointer (some ⟨bp0, 0, none⟩)) kr rfl kr (.head _) (QP_then QP_body) ?_
   refine WA_pure 5 27 (.pointer (some ⟨bp0, 0, none⟩)) kr rfl kr (.head _) (QP_then QP_body) ?_
   refine WA_pure 6 28 (.pointer (some ⟨bp0, 1, none⟩)) kr rfl kr (.head _) (QP_then QP_body) ?_
   refine WA_load_own (t := 3) (x := (.tmp 28)) 7 29 (.int .i64 p0.2) kr rfl kr (.head _) (QP_then QP_body) (fun _ h => h.2.1) (ev (.pointer (some ⟨bp0, 1, none⟩))) kr ?_
   replace ⟨x1, hx1, hr⟩ := bindS hr
   refine WA_index (t := 22) (e := 3) (x := (.tmp 25)) (y := (.tmp 29)) 8 30 (cInt .i64) kr rfl kr (.head _) (QP_then QP_body) (ev (.slice a1 (List.length p0.1) c1)) (ev (.int .i64 p0.2)) kr r1 hx1 ?_
   rintro b1 f1 cs1 rfl hq1
   refine WA_load_row (t := 3) (x := (.tmp 30)) 9 31 (.int .i64 x1) kr rfl kr (.head _) (QP_then QP_body) (fun _ h => h.1) (ev (.pointer (some ⟨b1, f1, none⟩))) hq1 kr ?_
   refine WA_pure 10 5 (.int .i64 x1) kr rfl kr (.head _) (QP_then QP_body) ?_
   refine WA_done kr ?_
   obtain rfl := Option.some.inj hr
   exact X_env _ kr (Ku1 _ _ ⟨m, rfl, hm, st, r1⟩)
  ·intro hc
   rw [if_neg (not_true hc)] at hr
   refine W_skip ?_
   obtain rfl := Option.some.inj hr
   exact X_env _ kr (Ku1 _ _ ⟨m, rfl, hm, st, r1⟩)
def testgatemake_Packages (N : Nat) : Option (List ByteArray) :=
 some ([(⟨#[112]⟩ : ByteArray), (⟨#[113]⟩ : ByteArray), (⟨#[115]⟩ : ByteArray)])
set_option maxHeartbeats 4000000 in
set_option maxRecDepth 100000 in
theorem testgatemake_Packages_ok {N : Nat} {m : Mem} {own : List Piece} {w : World} {r : List ByteArray} (st : St m (own) w) (hr : testgatemake_Packages N = some r) : Calls Tryd.prog 33 #[] w fun e w' => ∃ (ra1 : Option Addr) (rc1 : Nat) (m' : Mem), e = .returned (.slice ra1 (List.length r) rc1) ∧ m.le m' ∧ St m' (.room ra1 (List.length r) rc1 9 1 :: own) w' ∧ RepS cStr m' ra1 rc1 r := by
 unfold testgatemake_Packages at hr
 have hm := m.le_refl
 refine W_calls Tryd.func33 rfl Tryd.ntmps33 [] kr rfl ?_
 refine W_sr (WO_seg 1 [] kr kr ?_)
 refine WO_et rfl (W_sr ?_)
 refine WO_one rfl (One_buildSlice (d := 1) (t := 46) (e := 9) (len := 3) (parts := #[(0, (.const (.string (⟨#[112]⟩ : ByteArray)))), (1, (.const (.string (⟨#[113]⟩ : ByteArray)))), (2, (.const (.string (⟨#[115]⟩ : ByteArray))))]) cStr (xs := [(⟨#[112]⟩ : ByteArray), (⟨#[113]⟩ : ByteArray), (⟨#[115]⟩ : ByteArray)]) [.string (⟨#[112]⟩ : ByteArray), .string (⟨#[113]⟩ : ByteArray), .string (⟨#[115]⟩ : ByteArray)] kr rfl (fun _ => buildCells_run kr _) rfl rfl st ⟨[.string (⟨#[112]⟩ : ByteArray)], _, rfl, rfl, ⟨[.string (⟨#[113]⟩ : ByteArray)], _, rfl, rfl, ⟨[.string (⟨#[115]⟩ : ByteArray)], _, rfl, rfl, rfl⟩⟩⟩ ?_)
 clear st
 intro b1 m1 w1 hle1 st r1
 have hm := Mem.le_trans hm hle1
 refine WO_seg 1 [(0, .slice (some ⟨b1, 0, none⟩) (List.length ([(⟨#[112]⟩ : ByteArray), (⟨#[113]⟩ : ByteArray), (⟨#[115]⟩ : ByteArray)])) 3)] kr kr ?_
 refine WO_et rfl (W_ret ?_)
 obtain rfl := Option.some.inj hr
 refine X_ret [.tmp 0] [.slice (some ⟨b1, 0, none⟩) (List.length ([(⟨#[112]⟩ : ByteArray), (⟨#[113]⟩ : ByteArray), (⟨#[115]⟩ : ByteArray)])) 3] rfl (ResAll.cons (ResAt.tmp kr) ResAll.nil) ?_
 exact ⟨(some ⟨b1, 0, none⟩), 3, m1, rfl, hm, st, r1⟩
def testgatemake_Tape_One (N : Nat) (p0 : List Int × Int) (p1 : List ByteArray) : Option ((List Int × Int) × ByteArray) :=
 if ((List.length p1 : Int) == 0) = true then (some ((p0.1, p0.2), (⟨#[]⟩ : ByteArray))) else ((testgatemake_Tape_Next N (p0.1, p0.2) (List.length p1 : Int)).bind fun y1 => (idx p1 y1.2).bind fun x1 => some ((y1.1.1, y1.1.2), x1))
set_option maxHeartbeats 4000000 in
set_option maxRecDepth 100000 in
theorem testgatemake_Tape_One_ok {N : Nat} {m : Mem} {own : List Piece} {w : World} {p0 : List Int × Int} {p1 : List ByteArray} {bp0 : Nat} {a1 : Option Addr} {c1 : Nat} {a2 : Option Addr} {c2 : Nat} {r : (List Int × Int) × ByteArray} (st : St m (.blk bp0 (.cells #[.slice a1 (List.length p0.1) c1, .int .i64 p0.2] 26 (0, 0)) :: own) w) (r1 : RepS (cInt .i64) m a1 c1 p0.1) (r2 : RepS cStr m a2 c2 p1) (hr : testgatemake_Tape_One N p0 p1 = some r) : Calls Tryd.prog 19 #[.pointer (some ⟨bp0, 0, none⟩), .slice a2 (List.length p1) c2] w fun e w' => ∃ (ra1 : Option Addr) (rc1 : Nat) (m' : Mem), e = .returned (.string r.2) ∧ m.le m' ∧ St m' (.blk bp0 (.cells #[.slice ra1 (List.length r.1.1) rc1, .int .i64 r.1.2] 26 (0, 0)) :: own) w' ∧ RepS (cInt .i64) m' ra1 rc1 r.1.1 := by
 unfold testgatemake_Tape_One at hr
 have hm := m.le_refl
 refine W_calls Tryd.func19 rfl Tryd.ntmps19 [(0, .pointer (some ⟨bp0, 0, none⟩)), (1, .slice a2 (List.length p1) c2)] kr rfl ?_
 refine W_sr (WO_seg 1 [] kr kr ?_)
 refine WO_et rfl (W_seq ?_)
 refine W_sr (WO_seg 3 [(7, .bool ((List.length p1 : Int) == 0))] kr kr ?_)
 refine WO_et rfl (W_cond ((List.length p1 : Int) == 0) kr ?_ ?_)
 ·intro hc
  rw [if_pos hc] at hr
  refine W_sr (WO_seg 1 [(4, .string (⟨#[]⟩ : ByteArray))] kr kr ?_)
  refine WO_et rfl (W_ret ?_)
  refine X_then_ret ?_
  obtain rfl := Option.some.inj hr
  refine X_ret [.tmp 4] [.string (⟨#[]⟩ : ByteArray)] rfl (ResAll.cons (ResAt.tmp kr) ResAll.nil) ?_
  exact ⟨a1, c1, m, rfl, hm, st, r1⟩
 ·intro hc
  rw [if_neg (not_true hc)] at hr
  refine W_skip ?_
  refine X_then ?_
  refine W_sr (WO_seg 4 [(8, .slice a2 (List.length p1) c2), (9, .pointer (some ⟨bp0, 0, none⟩)), (11, .int .i64 (List.length p1 : Int))] kr kr ?_)
  replace ⟨y1, hx1, hr⟩ := bindS hr
  refine WO_one rfl (One_fn 12 7 #[.pointer (some ⟨bp0, 0, none⟩), .int .i64 (List.length p1 : Int)] kr rfl ?_)
  refine (testgatemake_Tape_Next_ok st r1 hx1).mono ?_
  clear st
  rintro _ w1 ⟨a3, c3, m1, rfl, hle1, st, r3⟩
  refine ⟨_, rfl, ?_⟩
  have hm := Mem.le_trans hm hle1
  have r2 := r2.mono hle1
  have r1 := r1.mono hle1
  replace ⟨x1, hx2, hr⟩ := bindS hr
  refine WO_one rfl (One_index (d := 13) (t := 46) (e := 9) (x := (.tmp 8)) (y := (.tmp 12)) cStr kr rfl (ev (.slice a2 (List.length p1) c2)) (ev (.int .i64 y1.2)) kr r2 hx2 ?_)
  rintro b1 f1 cs1 rfl hq1
  refine WO_one rfl (One_load_row (d := 14) (t := 9) (x := (.tmp 13)) (.string x1) kr rfl (ev (.pointer (some ⟨b1, f1, none⟩))) st hq1 kr ?_)
  refine WO_seg 1 [(4, .string x1)] kr kr ?_
  refine WO_et rfl (W_ret ?_)
  obtain rfl := Option.some.inj hr
  refine X_ret [.tmp 4] [.string x1] rfl (ResAll.cons (ResAt.tmp kr) ResAll.nil) ?_
  exact ⟨a3, c3, m1, rfl, hm, st, r3⟩
def testgatemake_Functions (N : Nat) : Option (List ByteArray) :=
 some ([(⟨#[102]⟩ : ByteArray), (⟨#[103]⟩ : ByteArray), (⟨#[104]⟩ : ByteArray), (⟨#[107]⟩ : ByteArray)])
set_option maxHeartbeats 4000000 in
set_option maxRecDepth 100000 in
theorem testgatemake_Functions_ok {N : Nat} {m : Mem} {own : List Piece} {w : World} {r : List ByteArray} (st : St m (own) w) (hr : testgatemake_Functions N = some r) : Calls Tryd.prog 34 #[] w fun e w' => ∃ (ra1 : Option Addr) (rc1 : Nat) (m' : Mem), e = .returned (.slice ra1 (List.length r) rc1) ∧ m.le m' ∧ St m' (.room ra1 (List.length r) rc1 9 1 :: own) w' ∧ RepS cStr m' ra1 rc1 r := by
 unfold testgatemake_Functions at hr
 have hm := m.le_refl
 refine W_calls Tryd.func34 rfl Tryd.ntmps34 [] kr rfl ?_
 refine W_sr (WO_seg 1 [] kr kr ?_)
 refine WO_et rfl (W_sr ?_)
 refine WO_one rfl (One_buildSlice (d := 1) (t := 46) (e := 9) (len := 4) (parts := #[(0, (.const (.string (⟨#[102]⟩ : ByteArray)))), (1, (.const (.string (⟨#[103]⟩ : ByteArray)))), (2, (.const (.string (⟨#[104]⟩ : ByteArray)))), (3, (.const (.string (⟨#[107]⟩ : ByteArray))))]) cStr (xs := [(⟨#[102]⟩ : ByteArray), (⟨#[103]⟩ : ByteArray), (⟨#[104]⟩ : ByteArray), (⟨#[107]⟩ : ByteArray)]) [.string (⟨#[102]⟩ : ByteArray), .string (⟨#[103]⟩ : ByteArray), .string (⟨#[104]⟩ : ByteArray), .string (⟨#[107]⟩ : ByteArray)] kr rfl (fun _ => buildCells_run kr _) rfl rfl st ⟨[.string (⟨#[102]⟩ : ByteArray)], _, rfl, rfl, ⟨[.string (⟨#[103]⟩ : ByteArray)], _, rfl, rfl, ⟨[.string (⟨#[104]⟩ : ByteArray)], _, rfl, rfl, ⟨[.string (⟨#[107]⟩ : ByteArray)], _, rfl, rfl, rfl⟩⟩⟩⟩ ?_)
 clear st
 intro b1 m1 w1 hle1 st r1
 have hm := Mem.le_trans hm hle1
 refine WO_seg 1 [(0, .slice (some ⟨b1, 0, none⟩) (List.length ([(⟨#[102]⟩ : ByteArray), (⟨#[103]⟩ : ByteArray), (⟨#[104]⟩ : ByteArray), (⟨#[107]⟩ : ByteArray)])) 4)] kr kr ?_
 refine WO_et rfl (W_ret ?_)
 obtain rfl := Option.some.inj hr
 refine X_ret [.tmp 0] [.slice (some ⟨b1, 0, none⟩) (List.length ([(⟨#[102]⟩ : ByteArray), (⟨#[103]⟩ : ByteArray), (⟨#[104]⟩ : ByteArray), (⟨#[107]⟩ : ByteArray)])) 4] rfl (ResAll.cons (ResAt.tmp kr) ResAll.nil) ?_
 exact ⟨(some ⟨b1, 0, none⟩), 4, m1, rfl, hm, st, r1⟩
def testgatemake_Tests (N : Nat) : Option (List ByteArray) :=
 some ([(⟨#[116]⟩ : ByteArray), (⟨#[117]⟩ : ByteArray), (⟨#[118]⟩ : ByteArray)])
set_option maxHeartbeats 4000000 in
set_option maxRecDepth 100000 in
theorem testgatemake_Tests_ok {N : Nat} {m : Mem} {own : List Piece} {w : World} {r : List ByteArray} (st : St m (own) w) (hr : testgatemake_Tests N = some r) : Calls Tryd.prog 35 #[] w fun e w' => ∃ (ra1 : Option Addr) (rc1 : Nat) (m' : Mem), e = .returned (.slice ra1 (List.length r) rc1) ∧ m.le m' ∧ St m' (.room ra1 (List.length r) rc1 9 1 :: own) w' ∧ RepS cStr m' ra1 rc1 r := by
 unfold testgatemake_Tests at hr
 have hm := m.le_refl
 refine W_calls Tryd.func35 rfl Tryd.ntmps35 [] kr rfl ?_
 refine W_sr (WO_seg 1 [] kr kr ?_)
 refine WO_et rfl (W_sr ?_)
 refine WO_one rfl (One_buildSlice (d := 1) (t := 46) (e := 9) (len := 3) (parts := #[(0, (.const (.string (⟨#[116]⟩ : ByteArray)))), (1, (.const (.string (⟨#[117]⟩ : ByteArray)))), (2, (.const (.string (⟨#[118]⟩ : ByteArray))))]) cStr (xs := [(⟨#[116]⟩ : ByteArray), (⟨#[117]⟩ : ByteArray), (⟨#[118]⟩ : ByteArray)]) [.string (⟨#[116]⟩ : ByteArray), .string (⟨#[117]⟩ : ByteArray), .string (⟨#[118]⟩ : ByteArray)] kr rfl (fun _ => buildCells_run kr _) rfl rfl st ⟨[.string (⟨#[116]⟩ : ByteArray)], _, rfl, rfl, ⟨[.string (⟨#[117]⟩ : ByteArray)], _, rfl, rfl, ⟨[.string (⟨#[118]⟩ : ByteArray)], _, rfl, rfl, rfl⟩⟩⟩ ?_)
 clear st
 intro b1 m1 w1 hle1 st r1
 have hm := Mem.le_trans hm hle1
 refine WO_seg 1 [(0, .slice (some ⟨b1, 0, none⟩) (List.length ([(⟨#[116]⟩ : ByteArray), (⟨#[117]⟩ : ByteArray), (⟨#[118]⟩ : ByteArray)])) 3)] kr kr ?_
 refine WO_et rfl (W_ret ?_)
 obtain rfl := Option.some.inj hr
 refine X_ret [.tmp 0] [.slice (some ⟨b1, 0, none⟩) (List.length ([(⟨#[116]⟩ : ByteArray), (⟨#[117]⟩ : ByteArray), (⟨#[118]⟩ : ByteArray)])) 3] rfl (ResAll.cons (ResAt.tmp kr) ResAll.nil) ?_
 exact ⟨(some ⟨b1, 0, none⟩), 3, m1, rfl, hm, st, r1⟩
def testgatemake_Paths (N : Nat) : Option (List ByteArray) :=
 some ([(⟨#[97, 46, 100, 97, 116]⟩ : ByteArray), (⟨#[100, 47, 98, 46, 100, 97, 116]⟩ : ByteArray), (⟨#[99]⟩ : ByteArray), (⟨#[97, 46, 115, 114, 99]⟩ : ByteArray), (⟨#[120, 46, 115, 114, 99]⟩ : ByteArray)])
set_option maxHeartbeats 4000000 in
set_option maxRecDepth 100000 in
theorem testgatemake_Paths_ok {N : Nat} {m : Mem} {own : List Piece} {w : World} {r : List ByteArray} (st : St m (own) w) (hr : testgatemake_Paths N = some r) : Calls Tryd.prog 20 #[] w fun e w' => ∃ (ra1 : Option Addr) (rc1 : Nat) (m' : Mem), e = .returned (.slice ra1 (List.length r) rc1) ∧ m.le m' ∧ St m' (.room ra1 (List.length r) rc1 9 1 :: own) w' ∧ RepS cStr m' ra1 rc1 r := by
 unfold testgatemake_Paths at hr
 have hm := m.le_refl
 refine W_calls Tryd.func20 rfl Tryd.ntmps20 [] kr rfl ?_
 refine W_sr (WO_seg 1 [] kr kr ?_)
 refine WO_et rfl (W_sr ?_)
 refine WO_one rfl (One_buildSlice (d := 1) (t := 46) (e := 9) (len := 5) (parts := #[(0, (.const (.string (⟨#[97, 46, 100, 97, 116]⟩ : ByteArray)))), (1, (.const (.string (⟨#[100, 47, 98, 46, 100, 97, 116]⟩ : ByteArray)))), (2, (.const (.string (⟨#[99]⟩ : ByteArray)))), (3, (.const (.string (⟨#[97, 46, 115, 114, 99]⟩ : ByteArray)))), (4, (.const (.string (⟨#[120, 46, 115, 114, 99]⟩ : ByteArray))))]) cStr (xs := [(⟨#[97, 46, 100, 97, 116]⟩ : ByteArray), (⟨#[100, 47, 98, 46, 100, 97, 116]⟩ : ByteArray), (⟨#[99]⟩ : ByteArray), (⟨#[97, 46, 115, 114, 99]⟩ : ByteArray), (⟨#[120, 46, 115, 114, 99]⟩ : ByteArray)]) [.string (⟨#[97, 46, 100, 97, 116]⟩ : ByteArray), .string (⟨#[100, 47, 98, 46, 100, 97, 116]⟩ : ByteArray), .string (⟨#[99]⟩ : ByteArray), .string (⟨#[97, 46, 115, 114, 99]⟩ : ByteArray), .string (⟨#[120, 46, 115, 114, 99]⟩ : ByteArray)] kr rfl (fun _ => buildCells_run kr _) rfl rfl st ⟨[.string (⟨#[97, 46, 100, 97, 116]⟩ : ByteArray)], _, rfl, rfl, ⟨[.string (⟨#[100, 47, 98, 46, 100, 97, 116]⟩ : ByteArray)], _, rfl, rfl, ⟨[.string (⟨#[99]⟩ : ByteArray)], _, rfl, rfl, ⟨[.string (⟨#[97, 46, 115, 114, 99]⟩ : ByteArray)], _, rfl, rfl, ⟨[.string (⟨#[120, 46, 115, 114, 99]⟩ : ByteArray)], _, rfl, rfl, rfl⟩⟩⟩⟩⟩ ?_)
 clear st
 intro b1 m1 w1 hle1 st r1
 have hm := Mem.le_trans hm hle1
 refine WO_seg 1 [(0, .slice (some ⟨b1, 0, none⟩) (List.length ([(⟨#[97, 46, 100, 97, 116]⟩ : ByteArray), (⟨#[100, 47, 98, 46, 100, 97, 116]⟩ : ByteArray), (⟨#[99]⟩ : ByteArray), (⟨#[97, 46, 115, 114, 99]⟩ : ByteArray), (⟨#[120, 46, 115, 114, 99]⟩ : ByteArray)])) 5)] kr kr ?_
 refine WO_et rfl (W_ret ?_)
 obtain rfl := Option.some.inj hr
 refine X_ret [.tmp 0] [.slice (some ⟨b1, 0, none⟩) (List.length ([(⟨#[97, 46, 100, 97, 116]⟩ : ByteArray), (⟨#[100, 47, 98, 46, 100, 97, 116]⟩ : ByteArray), (⟨#[99]⟩ : ByteArray), (⟨#[97, 46, 115, 114, 99]⟩ : ByteArray), (⟨#[120, 46, 115, 114, 99]⟩ : ByteArray)])) 5] rfl (ResAll.cons (ResAt.tmp kr) ResAll.nil) ?_
 exact ⟨(some ⟨b1, 0, none⟩), 5, m1, rfl, hm, st, r1⟩
def testgatemake_Variables (N : Nat) : Option (List ByteArray) :=
 some ([(⟨#[110]⟩ : ByteArray), (⟨#[109]⟩ : ByteArray)])
set_option maxHeartbeats 4000000 in
set_option maxRecDepth 100000 in
theorem testgatemake_Variables_ok {N : Nat} {m : Mem} {own : List Piece} {w : World} {r : List ByteArray} (st : St m (own) w) (hr : testgatemake_Variables N = some r) : Calls Tryd.prog 36 #[] w fun e w' => ∃ (ra1 : Option Addr) (rc1 : Nat) (m' : Mem), e = .returned (.slice ra1 (List.length r) rc1) ∧ m.le m' ∧ St m' (.room ra1 (List.length r) rc1 9 1 :: own) w' ∧ RepS cStr m' ra1 rc1 r := by
 unfold testgatemake_Variables at hr
 have hm := m.le_refl
 refine W_calls Tryd.func36 rfl Tryd.ntmps36 [] kr rfl ?_
 refine W_sr (WO_seg 1 [] kr kr ?_)
 refine WO_et rfl (W_sr ?_)
 refine WO_one rfl (One_buildSlice (d := 1) (t := 46) (e := 9) (len := 2) (parts := #[(0, (.const (.string (⟨#[110]⟩ : ByteArray)))), (1, (.const (.string (⟨#[109]⟩ : ByteArray))))]) cStr (xs := [(⟨#[110]⟩ : ByteArray), (⟨#[109]⟩ : ByteArray)]) [.string (⟨#[110]⟩ : ByteArray), .string (⟨#[109]⟩ : ByteArray)] kr rfl (fun _ => buildCells_run kr _) rfl rfl st ⟨[.string (⟨#[110]⟩ : ByteArray)], _, rfl, rfl, ⟨[.string (⟨#[109]⟩ : ByteArray)], _, rfl, rfl, rfl⟩⟩ ?_)
 clear st
 intro b1 m1 w1 hle1 st r1
 have hm := Mem.le_trans hm hle1
 refine WO_seg 1 [(0, .slice (some ⟨b1, 0, none⟩) (List.length ([(⟨#[110]⟩ : ByteArray), (⟨#[109]⟩ : ByteArray)])) 2)] kr kr ?_
 refine WO_et rfl (W_ret ?_)
 obtain rfl := Option.some.inj hr
 refine X_ret [.tmp 0] [.slice (some ⟨b1, 0, none⟩) (List.length ([(⟨#[110]⟩ : ByteArray), (⟨#[109]⟩ : ByteArray)])) 2] rfl (ResAll.cons (ResAt.tmp kr) ResAll.nil) ?_
 exact ⟨(some ⟨b1, 0, none⟩), 2, m1, rfl, hm, st, r1⟩
def testgatemake_Key (N : Nat) (p0 : List Int × Int) : Option ((List Int × Int) × (Int × ByteArray × ByteArray)) :=
 (testgatemake_Tape_Next N (p0.1, p0.2) 7).bind fun y1 => (testgatemake_Packages N).bind fun y2 => (testgatemake_Tape_One N (y1.1.1, y1.1.2) y2).bind fun y3 => (if ((IntKind.wrap .i64 (1 + y1.2)) == 1) = true then ((testgatemake_Functions N).bind fun y4 => (testgatemake_Tape_One N (y3.1.1, y3.1.2) y4).bind fun y5 => some (y3.2, y5.2, y5.1.1, y5.1.2)) else (if ((IntKind.wrap .i64 (1 + y1.2)) == 2) = true then ((testgatemake_Tests N).bind fun y6 => (testgatemake_Tape_One N (y3.1.1, y3.1.2) y6).bind fun y7 => some (y3.2, y7.2, y7.1.1, y7.1.2)) else ((if ((IntKind.wrap .i64 (1 + y1.2)) == 3) = true then (some ((IntKind.wrap .i64 (1 + y1.2)) == 3)) else (some ((IntKind.wrap .i64 (1 + y1.2)) == 4)) : Option (Bool)).bind fun o2 => if o2 = true then ((testgatemake_Paths N).bind fun y8 => (testgatemake_Tape_One N (y3.1.1, y3.1.2) y8).bind fun y9 => some (y9.2, (⟨#[]⟩ : ByteArray), y9.1.1, y9.1.2)) else (if ((IntKind.wrap .i64 (1 + y1.2)) == 5) = true then ((testgatemake_Variables N).bind fun y10 => (testgatemake_Tape_One N (y3.1.1, y3.1.2) y10).bind fun y11 => some (y11.2, (⟨#[]⟩ : ByteArray), y11.1.1, y11.1.2)) else (some (y3.2, (⟨#[]⟩ : ByteArray), y3.1.1, y3.1.2))))) : Option (ByteArray × ByteArray × List (Int) × Int)).bind fun o1 => some ((o1.2.2.1, o1.2.2.2), (IntKind.wrap .i64 (1 + y1.2), o1.1, o1.2.1))
set_option maxHeartbeats 4000000 in
set_option maxRecDepth 100000 in
theorem testgatemake_Key_ok {N : Nat} {m : Mem} {own : List Piece} {w : World} {p0 : List Int × Int} {bp0 : Nat} {a1 : Option Addr} {c1 : Nat} {r : (List Int × Int) × (Int × ByteArray × ByteArray)} (st : St m (.blk bp0 (.cells #[.slice a1 (List.length p0.1) c1, .int .i64 p0.2] 26 (0, 0)) :: own) w) (r1 : RepS (cInt .i64) m a1 c1 p0.1) (hr : testgatemake_Key N p0 = some r) : Calls Tryd.prog 8 #[.pointer (some ⟨bp0, 0, none⟩)] w fun e w' => ∃ (ra1 : Option Addr) (rc1 : Nat) (m' : Mem), e = .returned (.agg #[.int .i64 r.2.1, .string r.2.2.1, .string r.2.2.2]) ∧ m.le m' ∧ St m' (.blk bp0 (.cells #[.slice ra1 (List.length r.1.1) rc1, .int .i64 r.1.2] 26 (0, 0)) :: own) w' ∧ RepS (cInt .i64) m' ra1 rc1 r.1.1 := by
 unfold testgatemake_Key at hr
 have hm := m.le_refl
 refine W_calls Tryd.func8 rfl Tryd.ntmps8 [(0, .pointer (some ⟨bp0, 0, none⟩))] kr rfl ?_
 refine W_sr (WO_one rfl (One_alloc (d := 2) (e := 29) (.agg #[.int .i64 0, .string (⟨#[]⟩ : ByteArray), .string (⟨#[]⟩ : ByteArray)]) kr rfl kr st ?_))
 clear st
 intro b1 w1 st
 refine WO_et rfl (W_sr ?_)
 refine WO_seg 1 [(4, .pointer (some ⟨bp0, 0, none⟩))] kr kr ?_
 have st := st.front1
 replace ⟨y1, hx1, hr⟩ := bindS hr
 refine WO_one rfl (One_fn 5 7 #[.pointer (some ⟨bp0, 0, none⟩), .int .i64 7] kr rfl ?_)
 refine (testgatemake_Tape_Next_ok st r1 hx1).mono ?_
 clear st
 rintro _ w2 ⟨a2, c2, m1, rfl, hle1, st, r2⟩
 refine ⟨_, rfl, ?_⟩
 have hm := Mem.le_trans hm hle1
 have r1 := r1.mono hle1
 refine WO_seg 2 [(6, .int .i64 (IntKind.wrap .i64 (1 + y1.2))), (7, .pointer (some ⟨bp0, 0, none⟩))] kr kr ?_
 replace ⟨y2, hx2, hr⟩ := bindS hr
 refine WO_one rfl (One_fn 8 33 #[] kr rfl ?_)
 refine (testgatemake_Packages_ok st hx2).mono ?_
 clear st
 rintro _ w3 ⟨a3, c3, m2, rfl, hle2, st, r3⟩
 refine ⟨_, rfl, ?_⟩
 have hm := Mem.le_trans hm hle2
 have r2 := r2.mono hle2
 have st := st.front1
 replace ⟨y3, hx3, hr⟩ := bindS hr
 refine WO_one rfl (One_fn 9 19 #[.pointer (some ⟨bp0, 0, none⟩), .slice a3 (List.length y2) c3] kr rfl ?_)
 refine (testgatemake_Tape_One_ok st r2 r3 hx3).mono ?_
 clear st
 rintro _ w4 ⟨a4, c4, m3, rfl, hle3, st, r4⟩
 refine ⟨_, rfl, ?_⟩
 have hm := Mem.le_trans hm hle3
 have r3 := r3.mono hle3
 have r2 := r2.mono hle3
 refine WO_seg 1 [(10, .agg #[.int .i64 (IntKind.wrap .i64 (1 + y1.2)), .string y3.2, .string (⟨#[]⟩ : ByteArray)])] kr kr ?_
 refine WO_one rfl (One_alloc (d := 3) (e := 29) (.agg #[.int .i64 0, .string (⟨#[]⟩ : ByteArray), .string (⟨#[]⟩ : ByteArray)]) kr rfl kr st ?_)
 clear st
 intro b2 w5 st
 refine WO_one rfl (One_store (t := 29) (x := (.tmp 3)) (y := (.tmp 10)) (v := .agg #[.int .i64 (IntKind.wrap .i64 (1 + y1.2)), .string y3.2, .string (⟨#[]⟩ : ByteArray)]) (c' := #[.int .i64 (IntKind.wrap .i64 (1 + y1.2)), .string y3.2, .string (⟨#[]⟩ : ByteArray)]) kr (ev (.pointer (some ⟨b2, 0, none⟩))) (ev (.agg #[.int .i64 (IntKind.wrap .i64 (1 + y1.2)), .string y3.2, .string (⟨#[]⟩ : ByteArray)])) st kr kr ?_)
 clear st
 intro w6 st
 refine WO_end rfl ?_
 have st := st.front2
 have st := st.tail
 refine X_then ?_
 refine W_seq ?_
 refine W_sr (WO_seg 1 [(11, .pointer (some ⟨b2, 0, none⟩))] kr kr ?_)
 refine WO_one rfl (One_load_own (d := 12) (t := 3) (x := (.tmp 11)) (.int .i64 (IntKind.wrap .i64 (1 + y1.2))) kr rfl (ev (.pointer (some ⟨b2, 0, none⟩))) st.head kr ?_)
 refine WO_et rfl ?_
 replace ⟨o1, hr, hrKu1⟩ := bindS hr
 refine W_cut .normal (fun L' w' => ∃ (a5 : Option Addr) (c5 : Nat) (m4 : Mem), L' = [(2, .pointer (some ⟨b1, 0, none⟩)), (3, .pointer (some ⟨b2, 0, none⟩))] ∧ m.le m4 ∧ St m4 (.blk b2 (.cells #[.int .i64 (IntKind.wrap .i64 (1 + y1.2)), .string o1.1, .string o1.2.1] 29 (0, 0)) :: .blk bp0 (.cells #[.slice a5 (List.length o1.2.2.1) c5, .int .i64 o1.2.2.2] 26 (0, 0)) :: .blk b1 (.cells #[.int .i64 0, .string (⟨#[]⟩ : ByteArray), .string (⟨#[]⟩ : ByteArray)] 29 (0, 0)) :: own) w' ∧ RepS (cInt .i64) m4 a5 c5 o1.2.2.1) ?_ ?_
 ·clear hr st
  have hr := hrKu1
  clear hrKu1
  rintro _ w7 ⟨a5, c5, m4, rfl, hm, st, r5⟩
  refine X_then ?_
  refine W_sr (WO_one rfl (One_load_own (d := 38) (t := 29) (x := (.tmp 3)) (.agg #[.int .i64 (IntKind.wrap .i64 (1 + y1.2)), .string o1.1, .string o1.2.1]) kr rfl (ev (.pointer (some ⟨b2, 0, none⟩))) st.head kr ?_))
  have st := st.front2
  refine WO_one rfl (One_store (t := 29) (x := (.tmp 2)) (y := (.tmp 38)) (v := .agg #[.int .i64 (IntKind.wrap .i64 (1 + y1.2)), .string o1.1, .string o1.2.1]) (c' := #[.int .i64 (IntKind.wrap .i64 (1 + y1.2)), .string o1.1, .string o1.2.1]) kr (ev (.pointer (some ⟨b1, 0, none⟩))) (ev (.agg #[.int .i64 (IntKind.wrap .i64 (1 + y1.2)), .string o1.1, .string o1.2.1])) st kr kr ?_)
  clear st
  intro w21 st
  refine WO_et rfl (W_ret ?_)
  obtain rfl := Option.some.inj hr
  refine X_ret [.cell 2 29] [.agg #[.int .i64 (IntKind.wrap .i64 (1 + y1.2)), .string o1.1, .string o1.2.1]] rfl (ResAll.cons (ResAt.blk (v := .agg #[.int .i64 (IntKind.wrap .i64 (1 + y1.2)), .string o1.1, .string o1.2.1]) (o := 0) kr st.head kr) ResAll.nil) ?_
  have st := st.tail
  have st := st.tail
  exact ⟨a5, c5, m4, rfl, hm, st, r5⟩
 ·intro Ku1
  clear hrKu1
  refine W_block ?_
  refine W_sr (WO_seg 2 [(13, .bool ((IntKind.wrap .i64 (1 + y1.2)) == 1))] kr kr ?_)
  refine WO_et rfl (W_cond ((IntKind.wrap .i64 (1 + y1.2)) == 1) kr ?_ ?_)
  ·intro hc
   rw [if_pos hc] at hr
   refine W_region ?_
   refine WO_seg 1 [(15, .pointer (some ⟨bp0, 0, none⟩))] kr kr ?_
   replace ⟨y4, hx4, hr⟩ := bindS hr
   refine WO_one rfl (One_fn 16 34 #[] kr rfl ?_)
   refine (testgatemake_Functions_ok st hx4).mono ?_
   clear st
   rintro _ w8 ⟨a6, c6, m5, rfl, hle4, st, r6⟩
   refine ⟨_, rfl, ?_⟩
   have hm := Mem.le_trans hm hle4
   have r4 := r4.mono hle4
   have st := st.front2
   replace ⟨y5, hx5, hr⟩ := bindS hr
   refine WO_one rfl (One_fn 17 19 #[.pointer (some ⟨bp0, 0, none⟩), .slice a6 (List.length y4) c6] kr rfl ?_)
   refine (testgatemake_Tape_One_ok st r4 r6 hx5).mono ?_
   clear st
   rintro _ w9 ⟨a7, c7, m6, rfl, hle5, st, r7⟩
   refine ⟨_, rfl, ?_⟩
   have hm := Mem.le_trans hm hle5
   have r6 := r6.mono hle5
   have r4 := r4.mono hle5
   refine WO_seg 1 [(18, .pointer (some ⟨b2, 2, none⟩))] kr kr ?_
   have st := st.front2
   refine WO_one rfl (One_store (t := 9) (x := (.tmp 18)) (y := (.tmp 17)) (v := .string y5.2) (c' := #[.int .i64 (IntKind.wrap .i64 (1 + y1.2)), .string y3.2, .string y5.2]) kr (ev (.pointer (some ⟨b2, 2, none⟩))) (ev (.string y5.2)) st kr kr ?_)
   clear st
   intro w10 st
   refine WO_end rfl ?_
   have st := st.front2
   have st := st.tail
   refine X_block ?_
   obtain rfl := Option.some.inj hr
   have st := st.front2.front2.front2
   exact X_env _ kr (Ku1 _ _ ⟨a7, c7, m6, rfl, hm, st, r7⟩)
  ·intro hc
   rw [if_neg (not_true hc)] at hr
   refine W_sr (WO_seg 2 [(19, .bool ((IntKind.wrap .i64 (1 + y1.2)) == 2))] kr kr ?_)
   refine WO_et rfl (W_cond ((IntKind.wrap .i64 (1 + y1.2)) == 2) kr ?_ ?_)
   ·intro hc
    rw [if_pos hc] at hr
    refine W_region ?_
    refine WO_seg 1 [(21, .pointer (some ⟨bp0, 0, none⟩))] kr kr ?_
    replace ⟨y6, hx6, hr⟩ := bindS hr
    refine WO_one rfl (One_fn 22 35 #[] kr rfl ?_)
    refine (testgatemake_Tests_ok st hx6).mono ?_
    clear st
    rintro _ w11 ⟨a8, c8, m7, rfl, hle6, st, r8⟩
    refine ⟨_, rfl, ?_⟩
    have hm := Mem.le_trans hm hle6
    have r4 := r4.mono hle6
    have st := st.front2
    replace ⟨y7, hx7, hr⟩ := bindS hr
    refine WO_one rfl (One_fn 23 19 #[.pointer (some ⟨bp0, 0, none⟩), .slice a8 (List.length y6) c8] kr rfl ?_)
    refine (testgatemake_Tape_One_ok st r4 r8 hx7).mono ?_
    clear st
    rintro _ w12 ⟨a9, c9, m8, rfl, hle7, st, r9⟩
    refine ⟨_, rfl, ?_⟩
    have hm := Mem.le_trans hm hle7
    have r8 := r8.mono hle7
    have r4 := r4.mono hle7
    refine WO_seg 1 [(24, .pointer (some ⟨b2, 2, none⟩))] kr kr ?_
    have st := st.front2
    refine WO_one rfl (One_store (t := 9) (x := (.tmp 24)) (y := (.tmp 23)) (v := .string y7.2) (c' := #[.int .i64 (IntKind.wrap .i64 (1 + y1.2)), .string y3.2, .string y7.2]) kr (ev (.pointer (some ⟨b2, 2, none⟩))) (ev (.string y7.2)) st kr kr ?_)
    clear st
    intro w13 st
    refine WO_end rfl ?_
    have st := st.front2
    have st := st.tail
    refine X_block ?_
    obtain rfl := Option.some.inj hr
    have st := st.front2.front2.front2
    exact X_env _ kr (Ku1 _ _ ⟨a9, c9, m8, rfl, hm, st, r9⟩)
   ·intro hc
    rw [if_neg (not_true hc)] at hr
    refine W_seq ?_
    refine W_sr (WO_seg 2 [(25, .bool ((IntKind.wrap .i64 (1 + y1.2)) == 3))] kr kr ?_)
    refine WO_et rfl ?_
    replace ⟨o2, hr, hrKu2⟩ := bindS hr
    refine W_cut .normal (fun L' w' => ∃ (m9 : Mem), L' = [(0, .pointer (some ⟨bp0, 0, none⟩)), (2, .pointer (some ⟨b1, 0, none⟩)), (3, .pointer (some ⟨b2, 0, none⟩)), (12, .int .i64 (IntKind.wrap .i64 (1 + y1.2))), (25, .bool o2)] ∧ m.le m9 ∧ St m9 (.blk b2 (.cells #[.int .i64 (IntKind.wrap .i64 (1 + y1.2)), .string y3.2, .string (⟨#[]⟩ : ByteArray)] 29 (0, 0)) :: .blk bp0 (.cells #[.slice a4 (List.length y3.1.1) c4, .int .i64 y3.1.2] 26 (0, 0)) :: .blk b1 (.cells #[.int .i64 0, .string (⟨#[]⟩ : ByteArray), .string (⟨#[]⟩ : ByteArray)] 29 (0, 0)) :: own) w' ∧ RepS (cInt .i64) m9 a4 c4 y3.1.1) ?_ ?_
    ·clear hr st
     have hr := hrKu2
     clear hrKu2
     rintro _ w14 ⟨m9, rfl, hm, st, r4⟩
     refine X_then ?_
     refine W_cond o2 kr ?_ ?_
     ·intro hc
      rw [if_pos hc] at hr
      refine W_region ?_
      refine WO_seg 1 [(28, .pointer (some ⟨bp0, 0, none⟩))] kr kr ?_
      replace ⟨y8, hx8, hr⟩ := bindS hr
      refine WO_one rfl (One_fn 29 20 #[] kr rfl ?_)
      refine (testgatemake_Paths_ok st hx8).mono ?_
      clear st
      rintro _ w15 ⟨a10, c10, m10, rfl, hle8, st, r10⟩
      refine ⟨_, rfl, ?_⟩
      have hm := Mem.le_trans hm hle8
      have r4 := r4.mono hle8
      have st := st.front2
      replace ⟨y9, hx9, hr⟩ := bindS hr
      refine WO_one rfl (One_fn 30 19 #[.pointer (some ⟨bp0, 0, none⟩), .slice a10 (List.length y8) c10] kr rfl ?_)
      refine (testgatemake_Tape_One_ok st r4 r10 hx9).mono ?_
      clear st
      rintro _ w16 ⟨a11, c11, m11, rfl, hle9, st, r11⟩
      refine ⟨_, rfl, ?_⟩
      have hm := Mem.le_trans hm hle9
      have r10 := r10.mono hle9
      have r4 := r4.mono hle9
      refine WO_seg 1 [(31, .pointer (some ⟨b2, 1, none⟩))] kr kr ?_
      have st := st.front2
      refine WO_one rfl (One_store (t := 9) (x := (.tmp 31)) (y := (.tmp 30)) (v := .string y9.2) (c' := #[.int .i64 (IntKind.wrap .i64 (1 + y1.2)), .string y9.2, .string (⟨#[]⟩ : ByteArray)]) kr (ev (.pointer (some ⟨b2, 1, none⟩))) (ev (.string y9.2)) st kr kr ?_)
      clear st
      intro w17 st
      refine WO_end rfl ?_
      have st := st.front2
      have st := st.tail
      refine X_block ?_
      obtain rfl := Option.some.inj hr
      have st := st.front2.front2.front2
      exact X_env _ kr (Ku1 _ _ ⟨a11, c11, m11, rfl, hm, st, r11⟩)
     ·intro hc
      rw [if_neg (not_true hc)] at hr
      refine W_sr (WO_seg 2 [(32, .bool ((IntKind.wrap .i64 (1 + y1.2)) == 5))] kr kr ?_)
      refine WO_et rfl (W_cond ((IntKind.wrap .i64 (1 + y1.2)) == 5) kr ?_ ?_)
      ·intro hc
       rw [if_pos hc] at hr
       refine W_region ?_
       refine WO_seg 1 [(34, .pointer (some ⟨bp0, 0, none⟩))] kr kr ?_
       replace ⟨y10, hx10, hr⟩ := bindS hr
       refine WO_one rfl (One_fn 35 36 #[] kr rfl ?_)
       refine (testgatemake_Variables_ok st hx10).mono ?_
       clear st
       rintro _ w18 ⟨a12, c12, m12, rfl, hle10, st, r12⟩
       refine ⟨_, rfl, ?_⟩
       have hm := Mem.le_trans hm hle10
       have r4 := r4.mono hle10
       have st := st.front2
       replace ⟨y11, hx11, hr⟩ := bindS hr
       refine WO_one rfl (One_fn 36 19 #[.pointer (some ⟨bp0, 0, none⟩), .slice a12 (List.length y10) c12] kr rfl ?_)
       refine (testgatemake_Tape_One_ok st r4 r12 hx11).mono ?_
       clear st
       rintro _ w19 ⟨a13, c13, m13, rfl, hle11, st, r13⟩
       refine ⟨_, rfl, ?_⟩
       have hm := Mem.le_trans hm hle11
       have r12 := r12.mono hle11
       have r4 := r4.mono hle11
       refine WO_seg 1 [(37, .pointer (some ⟨b2, 1, none⟩))] kr kr ?_
       have st := st.front2
       refine WO_one rfl (One_store (t := 9) (x := (.tmp 37)) (y := (.tmp 36)) (v := .string y11.2) (c' := #[.int .i64 (IntKind.wrap .i64 (1 + y1.2)), .string y11.2, .string (⟨#[]⟩ : ByteArray)]) kr (ev (.pointer (some ⟨b2, 1, none⟩))) (ev (.string y11.2)) st kr kr ?_)
       clear st
       intro w20 st
       refine WO_end rfl ?_
       have st := st.front2
       have st := st.tail
       refine X_block ?_
       obtain rfl := Option.some.inj hr
       have st := st.front2.front2.front2
       exact X_env _ kr (Ku1 _ _ ⟨a13, c13, m13, rfl, hm, st, r13⟩)
      ·intro hc
       rw [if_neg (not_true hc)] at hr
       refine W_skip ?_
       refine X_block ?_
       obtain rfl := Option.some.inj hr
       have st := st.front2.front2.front2
       exact X_env _ kr (Ku1 _ _ ⟨a4, c4, m9, rfl, hm, st, r4⟩)
    ·intro Ku2
     clear hrKu2
     refine W_cond ((IntKind.wrap .i64 (1 + y1.2)) == 3) kr ?_ ?_
     ·intro hc
      rw [if_pos hc] at hr
      refine W_skip ?_
      obtain rfl := Option.some.inj hr
      have st := st.front2.front2.front2
      exact X_env _ kr (Ku2 _ _ ⟨m3, rfl, hm, st, r4⟩)
     ·intro hc
      rw [if_neg (not_true hc)] at hr
      refine W_region ?_
      refine WO_seg 2 [(25, .bool ((IntKind.wrap .i64 (1 + y1.2)) == 4))] kr kr ?_
      refine WO_end rfl ?_
      obtain rfl := Option.some.inj hr
      have st := st.front2.front2.front2
      exact X_env _ kr (Ku2 _ _ ⟨m3, rfl, hm, st, r4⟩)
def testgateref10_Less (N : Nat) (p0 : Int × ByteArray × ByteArray) (p1 : Int × ByteArray × ByteArray) : Option (Bool) :=
 if (p0.1 != p1.1) = true then (some (decide (p0.1 < p1.1))) else (if (!(p0.2.1.toList == p1.2.1.toList)) = true then (some (Op.bytesLess p0.2.1.toList p1.2.1.toList)) else (some (Op.bytesLess p0.2.2.toList p1.2.2.toList)))
set_option maxHeartbeats 4000000 in
set_option maxRecDepth 100000 in
theorem testgateref10_Less_ok {N : Nat} {m : Mem} {own : List Piece} {w : World} {p0 : Int × ByteArray × ByteArray} {p1 : Int × ByteArray × ByteArray} {r : Bool} (st : St m (own) w) (hr : testgateref10_Less N p0 p1 = some r) : Calls Tryd.prog 100 #[.agg #[.int .i64 p0.1, .string p0.2.1, .string p0.2.2], .agg #[.int .i64 p1.1, .string p1.2.1, .string p1.2.2]] w fun e w' => ∃ (m' : Mem), e = .returned (.bool r) ∧ m.le m' ∧ St m' (own) w' := by
 unfold testgateref10_Less at hr
 have hm := m.le_refl
 refine W_calls Tryd.func100 rfl Tryd.ntmps100 [(0, .agg #[.int .i64 p0.1, .string p0.2.1, .string p0.2.2]), (1, .agg #[.int .i64 p1.1, .string p1.2.1, .string p1.2.2])] kr rfl ?_
 refine W_sr (WO_one rfl (One_box (d := 2) (e := 29) (x := (.tmp 0)) (.agg #[.int .i64 p0.1, .string p0.2.1, .string p0.2.2]) kr rfl kr st ?_))
 clear st
 intro b1 m1 w1 hle1 st hb1
 have hm := Mem.le_trans hm hle1
 refine WO_one rfl (One_box (d := 3) (e := 29) (x := (.tmp 1)) (.agg #[.int .i64 p1.1, .string p1.2.1, .string p1.2.2]) kr rfl kr st ?_)
 clear st
 intro b2 m2 w2 hle2 st hb2
 have hm := Mem.le_trans hm hle2
 have hb1 := hb1.mono hle2
 refine WO_seg 1 [] kr kr ?_
 refine WO_et rfl (W_seq ?_)
 refine W_sr (WO_seg 1 [(5, .pointer (some ⟨b1, 0, none⟩))] kr kr ?_)
 refine WO_one rfl (One_load_row (d := 6) (t := 3) (x := (.tmp 5)) (.int .i64 p0.1) kr rfl (ev (.pointer (some ⟨b1, 0, none⟩))) st hb1 kr ?_)
 refine WO_seg 1 [(7, .pointer (some ⟨b2, 0, none⟩))] kr kr ?_
 refine WO_one rfl (One_load_row (d := 8) (t := 3) (x := (.tmp 7)) (.int .i64 p1.1) kr rfl (ev (.pointer (some ⟨b2, 0, none⟩))) st hb2 kr ?_)
 refine WO_seg 1 [(9, .bool (p0.1 != p1.1))] kr kr ?_
 refine WO_et rfl (W_cond (p0.1 != p1.1) kr ?_ ?_)
 ·intro hc
  rw [if_pos hc] at hr
  refine W_sr (WO_seg 1 [(10, .pointer (some ⟨b1, 0, none⟩))] kr kr ?_)
  refine WO_one rfl (One_load_row (d := 11) (t := 3) (x := (.tmp 10)) (.int .i64 p0.1) kr rfl (ev (.pointer (some ⟨b1, 0, none⟩))) st hb1 kr ?_)
  refine WO_seg 1 [(12, .pointer (some ⟨b2, 0, none⟩))] kr kr ?_
  refine WO_one rfl (One_load_row (d := 13) (t := 3) (x := (.tmp 12)) (.int .i64 p1.1) kr rfl (ev (.pointer (some ⟨b2, 0, none⟩))) st hb2 kr ?_)
  refine WO_seg 2 [(4, .bool (decide (p0.1 < p1.1)))] kr kr ?_
  refine WO_et rfl (W_ret ?_)
  refine X_then_ret ?_
  obtain rfl := Option.some.inj hr
  refine X_ret [.tmp 4] [.bool (decide (p0.1 < p1.1))] rfl (ResAll.cons (ResAt.tmp kr) ResAll.nil) ?_
  exact ⟨m2, rfl, hm, st⟩
 ·intro hc
  rw [if_neg (not_true hc)] at hr
  refine W_skip ?_
  refine X_then ?_
  refine W_seq ?_
  refine W_sr (WO_seg 1 [(15, .pointer (some ⟨b1, 1, none⟩))] kr kr ?_)
  refine WO_one rfl (One_load_row (d := 16) (t := 9) (x := (.tmp 15)) (.string p0.2.1) kr rfl (ev (.pointer (some ⟨b1, 1, none⟩))) st (hb1.drop 1) kr ?_)
  refine WO_seg 1 [(17, .pointer (some ⟨b2, 1, none⟩))] kr kr ?_
  refine WO_one rfl (One_load_row (d := 18) (t := 9) (x := (.tmp 17)) (.string p1.2.1) kr rfl (ev (.pointer (some ⟨b2, 1, none⟩))) st (hb2.drop 1) kr ?_)
  refine WO_seg 1 [(19, .bool (!(p0.2.1.toList == p1.2.1.toList)))] kr kr ?_
  refine WO_et rfl (W_cond (!(p0.2.1.toList == p1.2.1.toList)) kr ?_ ?_)
  ·intro hc
   rw [if_pos hc] at hr
   refine W_sr (WO_seg 1 [(20, .pointer (some ⟨b1, 1, none⟩))] kr kr ?_)
   refine WO_one rfl (One_load_row (d := 21) (t := 9) (x := (.tmp 20)) (.string p0.2.1) kr rfl (ev (.pointer (some ⟨b1, 1, none⟩))) st (hb1.drop 1) kr ?_)
   refine WO_seg 1 [(22, .pointer (some ⟨b2, 1, none⟩))] kr kr ?_
   refine WO_one rfl (One_load_row (d := 23) (t := 9) (x := (.tmp 22)) (.string p1.2.1) kr rfl (ev (.pointer (some ⟨b2, 1, none⟩))) st (hb2.drop 1) kr ?_)
   refine WO_seg 2 [(4, .bool (Op.bytesLess p0.2.1.toList p1.2.1.toList))] kr kr ?_
   refine WO_et rfl (W_ret ?_)
   refine X_then_ret ?_
   obtain rfl := Option.some.inj hr
   refine X_ret [.tmp 4] [.bool (Op.bytesLess p0.2.1.toList p1.2.1.toList)] rfl (ResAll.cons (ResAt.tmp kr) ResAll.nil) ?_
   exact ⟨m2, rfl, hm, st⟩
  ·intro hc
   rw [if_neg (not_true hc)] at hr
   refine W_skip ?_
   refine X_then ?_
   refine W_sr (WO_seg 1 [(25, .pointer (some ⟨b1, 2, none⟩))] kr kr ?_)
   refine WO_one rfl (One_load_row (d := 26) (t := 9) (x := (.tmp 25)) (.string p0.2.2) kr rfl (ev (.pointer (some ⟨b1, 2, none⟩))) st (hb1.drop 2) kr ?_)
   refine WO_seg 1 [(27, .pointer (some ⟨b2, 2, none⟩))] kr kr ?_
   refine WO_one rfl (One_load_row (d := 28) (t := 9) (x := (.tmp 27)) (.string p1.2.2) kr rfl (ev (.pointer (some ⟨b2, 2, none⟩))) st (hb2.drop 2) kr ?_)
   refine WO_seg 2 [(4, .bool (Op.bytesLess p0.2.2.toList p1.2.2.toList))] kr kr ?_
   refine WO_et rfl (W_ret ?_)
   obtain rfl := Option.some.inj hr
   refine X_ret [.tmp 4] [.bool (Op.bytesLess p0.2.2.toList p1.2.2.toList)] rfl (ResAll.cons (ResAt.tmp kr) ResAll.nil) ?_
   exact ⟨m2, rfl, hm, st⟩
def testgateref10_Insert_L1 (N : Nat) (p0 : List (Int × ByteArray × ByteArray)) (p1 : Int × ByteArray × ByteArray) (s1 : Int) : Option ((Int) ⊕ ((Int))) :=
 (if (decide (s1 < ((List.length p0) : Int))) = true then ((idx p0 s1).bind fun x1 => (testgateref10_Less N (x1.1, x1.2.1, x1.2.2) (p1.1, p1.2.1, p1.2.2)).bind fun y1 => some y1) else (some false) : Option (Bool)).bind fun o2 => if o2 = true then (some (.inl (IntKind.wrap .i64 (s1 + 1)))) else (some (.inr s1))
def testgateref10_Insert (N : Nat) (p0 : List (Int × ByteArray × ByteArray)) (p1 : Int × ByteArray × ByteArray) : Option (List (Int × ByteArray × ByteArray)) :=
 (loopM (testgateref10_Insert_L1 N p0 p1) N 0).bind fun o1 => (if (decide (o1 < ((List.length p0) : Int))) = true then ((idx p0 o1).bind fun x2 => some ((x2.1 == p1.1) && ((x2.2.1.toList == p1.2.1.toList) && ((x2.2.2.toList == p1.2.2.toList) && true)))) else (some false) : Option (Bool)).bind fun o3 => if o3 = true then (some p0) else ((appendS 40 p0 ([(0, (⟨#[]⟩ : ByteArray), (⟨#[]⟩ : ByteArray))])).bind fun l1 => (chkS l1 (IntKind.wrap .i64 (o1 + 1)) (List.length l1 : Int)).bind fun u2 => (chkS l1 o1 (List.length l1 : Int)).bind fun u3 => (copyM l1 (IntKind.wrap .i64 (o1 + 1)) o1).bind fun l2 => (idx l2 o1).bind fun x3 => some (List.set l2 (Int.toNat o1) (p1.1, p1.2.1, p1.2.2)))
set_option maxHeartbeats 4000000 in
set_option maxRecDepth 100000 in
theorem testgateref10_Insert_ok {N : Nat} {m : Mem} {own : List Piece} {w : World} {p0 : List (Int × ByteArray × ByteArray)} {p1 : Int × ByteArray × ByteArray} {a1 : Option Addr} {c1 : Nat} {T1 : List Value} {r : List (Int × ByteArray × ByteArray)} (st : St m (opc a1 (acellsM (fun x : Int × ByteArray × ByteArray => ([.int .i64 x.1, .string x.2.1, .string x.2.2] : List Value)) p0 T1) 29 :: own) w) (hs1 : OAS a1 (List.length p0) c1 3 T1) (hr : testgateref10_Insert N p0 p1 = some r) : Calls Tryd.prog 69 #[.slice a1 (List.length p0) c1, .agg #[.int .i64 p1.1, .string p1.2.1, .string p1.2.2]] w fun e w' => ∃ (ra1 : Option Addr) (rc1 : Nat) (rT1 : List Value) (m' : Mem), e = .returned (.slice ra1 (List.length r) rc1) ∧ m.le m' ∧ St m' (opc ra1 (acellsM (fun x : Int × ByteArray × ByteArray => ([.int .i64 x.1, .string x.2.1, .string x.2.2] : List Value)) r rT1) 29 :: own) w' ∧ OAS ra1 (List.length r) rc1 3 rT1 := by
 unfold testgateref10_Insert at hr
 have hm := m.le_refl
 refine W_calls Tryd.func69 rfl Tryd.ntmps69 [(0, .slice a1 (List.length p0) c1), (1, .agg #[.int .i64 p1.1, .string p1.2.1, .string p1.2.2])] kr rfl ?_
 refine W_sr (WO_one rfl (One_box (d := 3) (e := 29) (x := (.tmp 1)) (.agg #[.int .i64 p1.1, .string p1.2.1, .string p1.2.2]) kr rfl kr st ?_))
 clear st
 intro b1 m1 w1 hle1 st hb1
 have hm := Mem.le_trans hm hle1
 refine WO_seg 1 [] kr kr ?_
 refine WO_et rfl (W_sr ?_)
 refine WO_seg 1 [(5, .int .i64 0)] kr kr ?_
 refine WO_et rfl (W_seq ?_)
 refine W_block ?_
 replace ⟨out1, hr, hrKu1⟩ := bindS hr
 refine W_cut (.exit 0) (fun L' w' => ∃ (o1 : Int) (m2 : Mem), o1 = out1 ∧ L' = [(0, .slice a1 (List.length p0) c1), (3, .pointer (some ⟨b1, 0, none⟩)), (5, .int .i64 o1)] ∧ m.le m2 ∧ St m2 (opc a1 (acellsM (fun x : Int × ByteArray × ByteArray => ([.int .i64 x.1, .string x.2.1, .string x.2.2] : List Value)) p0 T1) 29 :: own) w' ∧ MRow m2 b1 0 [.int .i64 p1.1, .string p1.2.1, .string p1.2.2]) ?_ ?_
 ·clear hr st
  rintro _ w2 ⟨o1, m2, rfl, rfl, hm, st, hb1⟩
  have hr := hrKu1
  clear hrKu1
  refine X_block_eq ?_
  refine X_then ?_
  refine W_seq ?_
  refine W_seq ?_
  replace ⟨o3, hr, hrK⟩ := bindS hr
  refine W_cut .normal (fun L' w' => ∃ (m6 : Mem), L' = [(0, .slice a1 (List.length p0) c1), (3, .pointer (some ⟨b1, 0, none⟩)), (5, .int .i64 o1), (31, .bool o3)] ∧ m.le m6 ∧ St m6 (opc a1 (acellsM (fun x : Int × ByteArray × ByteArray => ([.int .i64 x.1, .string x.2.1, .string x.2.2] : List Value)) p0 T1) 29 :: own) w' ∧ MRow m6 b1 0 [.int .i64 p1.1, .string p1.2.1, .string p1.2.2]) ?_ ?_
  ·clear hr st
   have hr := hrK
   clear hrK
   rintro _ w7 ⟨m6, rfl, hm, st, hb1⟩
   refine X_then ?_
   refine W_cond o3 kr ?_ ?_
   ·intro hc
    rw [if_pos hc] at hr
    refine W_sr (WO_seg 2 [(4, .slice a1 (List.length p0) c1)] kr kr ?_)
    refine WO_et rfl (W_ret ?_)
    refine X_then_ret ?_
    obtain rfl := Option.some.inj hr
    refine X_ret [.tmp 4] [.slice a1 (List.length p0) c1] rfl (ResAll.cons (ResAt.tmp kr) ResAll.nil) ?_
    exact ⟨a1, c1, T1, m6, rfl, hm, st, hs1⟩
   ·intro hc
    rw [if_neg (not_true hc)] at hr
    refine W_skip ?_
    refine X_then ?_
    refine W_sr (WO_seg 2 [(33, .slice a1 (List.length p0) c1), (34, .agg #[.int .i64 0, .string (⟨#[]⟩ : ByteArray), .string (⟨#[]⟩ : ByteArray)])] kr kr ?_)
    refine WO_one rfl (One_buildSlice (d := 35) (t := 23) (e := 29) (len := 1) (parts := #[(0, (.tmp 34))]) (cPair (cInt .i64) (cPair cStr cStr)) (xs := [(0, (⟨#[]⟩ : ByteArray), (⟨#[]⟩ : ByteArray))]) [.int .i64 0, .string (⟨#[]⟩ : ByteArray), .string (⟨#[]⟩ : ByteArray)] kr rfl (fun _ => buildCells_run kr _) rfl rfl st ⟨[.int .i64 0, .string (⟨#[]⟩ : ByteArray), .string (⟨#[]⟩ : ByteArray)], _, rfl, ⟨_, _, rfl, rfl, ⟨_, _, rfl, rfl, rfl⟩⟩, rfl⟩ ?_)
    clear st
    intro b2 m7 w9 hle3 st r1
    have hm := Mem.le_trans hm hle3
    have hb1 := hb1.mono hle3
    have st := st.front1
    replace ⟨l1, hx4, hr⟩ := bindS hr
    refine WO_one rfl (One_appendM (d := 36) (t := 23) (u := 23) (e := 29) (by_ := 40) (x := (.tmp 33)) (y := (.tmp 35)) (c := (cPair (cInt .i64) (cPair cStr cStr))) (f := (fun x : Int × ByteArray × ByteArray => ([.int .i64 x.1, .string x.2.1, .string x.2.2] : List Value))) (l := p0) (fun _ _ _ h => by obtain ⟨_, _, rfl, rfl, ⟨_, _, rfl, rfl, rfl⟩⟩ := h; rfl) (fun _ => rfl) kr rfl (ev (.slice a1 (List.length p0) c1)) (ev (.slice (some ⟨b2, 0, none⟩) (List.length ([(0, (⟨#[]⟩ : ByteArray), (⟨#[]⟩ : ByteArray))])) 1)) st hs1 rfl kr (.inl kr) r1.src hx4 ?_)
    clear st
    intro a2 c2 T2 w10 hs2 st
    refine WO_seg 1 [(0, .slice a2 (List.length l1) c2)] kr kr ?_
    refine WO_end rfl ?_
    have st := st.front1
    have st := st.tail
    refine X_then ?_
    refine W_seq ?_
    refine W_draw [(8, fun w' => Inv m7 w' ∧ True)] kr st ?_
    clear st
    intro w11 _ st
    have hmS3 := m7.le_refl
    refine ⟨⟨.inr ⟨Inv.anti st.inv hmS3, trivial⟩, trivial⟩, ?_⟩
    refine WA_pure 0 37 (.slice a2 (List.length l1) c2) kr rfl kr (.head _) (QP_then QP_body) ?_
    refine WA_pure 1 38 (.int .i64 o1) kr rfl kr (.head _) (QP_then QP_body) ?_
    refine WA_pure 2 39 (.int .i64 (IntKind.wrap .i64 (o1 + 1))) kr rfl kr (.head _) (QP_then QP_body) ?_
    replace ⟨u2, hx5, hr⟩ := bindS hr
    refine WA_viewM (t := 23) (e := 29) (k := 3) (x := (.tmp 37)) (lo := (some (.tmp 39))) (hi := none) (li := IntKind.wrap .i64 (o1 + 1)) (hix := (List.length l1 : Int)) 3 40 kr rfl kr (.head _) (QP_then QP_body) (ev (.slice a2 (List.length l1) c2)) kr (.inr ⟨_, _, rfl, (ev (.int .i64 (IntKind.wrap .i64 (o1 + 1))))⟩) (.inl ⟨rfl, congrArg Nat.cast rfl⟩) hs2 rfl hx5 ?_
    have hv1 := chk_n hx5 rfl
    refine WA_pure 4 41 (.slice a2 (List.length l1) c2) kr rfl kr (.head _) (QP_then QP_body) ?_
    refine WA_pure 5 42 (.int .i64 o1) kr rfl kr (.head _) (QP_then QP_body) ?_
    replace ⟨u3, hx6, hr⟩ := bindS hr
    refine WA_viewM (t := 23) (e := 29) (k := 3) (x := (.tmp 41)) (lo := (some (.tmp 42))) (hi := none) (li := o1) (hix := (List.length l1 : Int)) 6 43 kr rfl kr (.head _) (QP_then QP_body) (ev (.slice a2 (List.length l1) c2)) kr (.inr ⟨_, _, rfl, (ev (.int .i64 o1))⟩) (.inl ⟨rfl, congrArg Nat.cast rfl⟩) hs2 rfl hx6 ?_
    have hv2 := chk_n hx6 rfl
    replace ⟨l2, hx7, hr⟩ := bindS hr
    refine WA_one 7 kr  (One_copyM (d := 44) (t := 23) (u := 23) (e := 29) (k := 3) (x := (.tmp 40)) (y := (.tmp 43)) (f := (fun x : Int × ByteArray × ByteArray => ([.int .i64 x.1, .string x.2.1, .string x.2.2] : List Value))) (l := l1) (d0 := IntKind.wrap .i64 (o1 + 1)) (s0 := o1) (fun _ => rfl) (fun _ _ hv => by simp only [List.mem_cons, List.not_mem_nil, or_false] at hv; rcases hv with rfl | rfl | rfl <;> rfl) (by decide) kr rfl (ev (.slice (slA a2 c2 (Int.toNat (IntKind.wrap .i64 (o1 + 1))) 3) (Int.toNat (List.length l1 : Int) - Int.toNat (IntKind.wrap .i64 (o1 + 1))) (c2 - Int.toNat (IntKind.wrap .i64 (o1 + 1))))) (ev (.slice (slA a2 c2 (Int.toNat o1) 3) (Int.toNat (List.length l1 : Int) - Int.toNat o1) (c2 - Int.toNat o1))) rfl rfl kr st hs2 rfl hx7 ?_)
    clear st
    intro v1 w12 st
    have hn1 := ((copyM_len hx7).trans rfl)
    refine ⟨⟨.inr ⟨Inv.anti st.inv hmS3, trivial⟩, trivial⟩, ?_⟩
    refine WA_done kr ?_
    refine X_then ?_
    refine W_sr (WO_seg 2 [(45, .slice a2 (List.length l1) c2), (46, .int .i64 o1)] kr kr ?_)
    refine WO_one rfl (One_load_row (d := 47) (t := 29) (x := (.tmp 3)) (.agg #[.int .i64 p1.1, .string p1.2.1, .string p1.2.2]) kr rfl (ev (.pointer (some ⟨b1, 0, none⟩))) st hb1 kr ?_)
    replace ⟨x3, hx8, hr⟩ := bindS hr
    refine WO_one rfl (One_arrIndexM (d := 48) (t := 23) (e := 29) (x := (.tmp 45)) (y := (.tmp 46)) (k := 3) kr rfl (ev (.slice a2 (List.length l1) c2)) (ev (.int .i64 o1)) kr hs2 hn1 hx8 ?_)
    refine WO_one rfl (One_arrStoreM (t := 29) (x := (.tmp 48)) (y := (.tmp 47)) (o := 0) (f := (fun x : Int × ByteArray × ByteArray => ([.int .i64 x.1, .string x.2.1, .string x.2.2] : List Value))) (z := x3) (u := (p1.1, p1.2.1, p1.2.2)) (v := .agg #[.int .i64 p1.1, .string p1.2.1, .string p1.2.2]) (fun _ => rfl) (Int.toNat o1 * 3) rfl kr (ev (.pointer (some ⟨ab a2, Int.toNat o1 * 3, none⟩))) (ev (.agg #[.int .i64 p1.1, .string p1.2.1, .string p1.2.2])) st hs2 hn1 hx8 kr rfl ?_)
    clear st
    intro w13 st
    have hn2 : List.length (List.set l2 (Int.toNat o1) (p1.1, p1.2.1, p1.2.2)) = (List.length l1) := set_len hn1 _ _
    refine WO_et rfl (W_sr ?_)
    refine WO_seg 2 [(4, .slice a2 (List.length l1) c2)] kr kr ?_
    refine WO_et rfl (W_ret ?_)
    obtain rfl := Option.some.inj hr
    refine X_ret [.tmp 4] [.slice a2 (List.length l1) c2] rfl (ResAll.cons (ResAt.tmp kr) ResAll.nil) ?_
    exact ⟨a2, c2, T2, m7, (by rw [hn2] <;> rfl), hm, st, (OAS.cast hs2 hn2)⟩
  ·intro K
   clear hrK
   refine W_draw [(12, fun w' => Inv m2 w' ∧ Piece.holds m2 w' (opc a1 (acellsM (fun x : Int × ByteArray × ByteArray => ([.int .i64 x.1, .string x.2.1, .string x.2.2] : List Value)) p0 T1) 29) ∧ True)] kr st ?_
   clear st
   intro w8 _ st
   have hmS2 := m2.le_refl
   refine ⟨⟨.inr ⟨Inv.anti st.inv hmS2, opc_anti st.head hmS2, trivial⟩, trivial⟩, ?_⟩
   refine WA_pure 0 20 (.int .i64 o1) kr rfl kr (.head _) (QP_then (QP_then QP_body)) ?_
   refine WA_pure 1 21 (.slice a1 (List.length p0) c1) kr rfl kr (.head _) (QP_then (QP_then QP_body)) ?_
   refine WA_pure 2 22 (.int .i64 ((List.length p0) : Int)) kr rfl kr (.head _) (QP_then (QP_then QP_body)) ?_
   refine WA_pure 3 23 (.bool (decide (o1 < ((List.length p0) : Int)))) kr rfl kr (.head _) (QP_then (QP_then QP_body)) ?_
   refine WA_pure 4 24 (.bool (decide (o1 < ((List.length p0) : Int)))) kr rfl kr (.head _) (QP_then (QP_then QP_body)) ?_
   rcases bcases (decide (o1 < ((List.length p0) : Int))) with hc | hc
   ·rw [if_pos hc] at hr
    refine WA_fact (t := 24) (b := true) (decide (o1 < ((List.length p0) : Int))) kr hc ?_
    refine WA_pure 5 25 (.slice a1 (List.length p0) c1) kr rfl kr (.head _) (QP_then (QP_then QP_body)) ?_
    refine WA_pure 6 26 (.int .i64 o1) kr rfl kr (.head _) (QP_then (QP_then QP_body)) ?_
    replace ⟨x2, hx3, hr⟩ := bindS hr
    refine WA_arrIndexM (t := 23) (e := 29) (x := (.tmp 25)) (y := (.tmp 26)) (k := 3) 7 27 kr rfl kr (.head _) (QP_then (QP_then QP_body)) (ev (.slice a1 (List.length p0) c1)) (ev (.int .i64 o1)) kr hs1 rfl hx3 ?_
    refine WA_arrLoadM (t := 29) (x := (.tmp 27)) (o := 0) (f := (fun x : Int × ByteArray × ByteArray => ([.int .i64 x.1, .string x.2.1, .string x.2.2] : List Value))) (z := x2) (v := .agg #[.int .i64 x2.1, .string x2.2.1, .string x2.2.2]) 8 28 (fun _ => rfl) (Int.toNat o1 * 3) rfl kr rfl kr (.head _) (QP_then (QP_then QP_body)) (fun _ h => h.2.1) (ev (.pointer (some ⟨ab a1, Int.toNat o1 * 3, none⟩))) hs1 rfl hx3 kr ?_
    refine WA_load_row (t := 29) (x := (.tmp 3)) 9 29 (.agg #[.int .i64 p1.1, .string p1.2.1, .string p1.2.2]) kr rfl kr (.head _) (QP_then (QP_then QP_body)) (fun _ h => h.1) (ev (.pointer (some ⟨b1, 0, none⟩))) hb1 kr ?_
    refine WA_one 10 kr  (One_eqAgg (d := 30) (t := 29) (t2 := 29) (x := (.tmp 28)) (y := (.tmp 29)) (xs := #[.int .i64 x2.1, .string x2.2.1, .string x2.2.2]) (ys := #[.int .i64 p1.1, .string p1.2.1, .string p1.2.2]) ((x2.1 == p1.1) && ((x2.2.1.toList == p1.2.1.toList) && ((x2.2.2.toList == p1.2.2.toList) && true))) kr rfl (ev (.agg #[.int .i64 x2.1, .string x2.2.1, .string x2.2.2])) (ev (.agg #[.int .i64 p1.1, .string p1.2.1, .string p1.2.2])) kr kr kr ?_)
    refine ⟨⟨.inr ⟨Inv.anti st.inv hmS2, opc_anti st.head hmS2, trivial⟩, trivial⟩, ?_⟩
    refine WA_pure 11 31 (.bool ((x2.1 == p1.1) && ((x2.2.1.toList == p1.2.1.toList) && ((x2.2.2.toList == p1.2.2.toList) && true)))) kr rfl kr (.head _) (QP_then (QP_then QP_body)) ?_
    obtain rfl := Option.some.inj hr
    exact WA_done kr (X_env _ kr (K _ _ ⟨m2, rfl, hm, st, hb1⟩))
   ·rw [if_neg (not_true hc)] at hr
    refine WA_fact (t := 24) (b := false) (decide (o1 < ((List.length p0) : Int))) kr hc ?_
    refine WA_not 5 25 kr rfl kr (.head _) (QP_then (QP_then QP_body)) ?_
    refine WA_not 6 26 kr rfl kr (.head _) (QP_then (QP_then QP_body)) ?_
    refine WA_not 7 27 kr rfl kr (.head _) (QP_then (QP_then QP_body)) ?_
    refine WA_not 8 28 kr rfl kr (.head _) (QP_then (QP_then QP_body)) ?_
    refine WA_not 9 29 kr rfl kr (.head _) (QP_then (QP_then QP_body)) ?_
    refine WA_not 10 30 kr rfl kr (.head _) (QP_then (QP_then QP_body)) ?_
    refine WA_pure 11 31 (.bool false) kr rfl kr (.head _) (QP_then (QP_then QP_body)) ?_
    obtain rfl := Option.some.inj hr
    exact WA_done kr (X_env _ kr (K _ _ ⟨m2, rfl, hm, st, hb1⟩))
 intro K0_u1
 clear hrKu1
 refine W_env _ kr (W_loop (fun k1 L' w' => ∃ (s1 : Int) (m3 : Mem), loopM (testgateref10_Insert_L1 N p0 p1) k1 s1 = some out1 ∧ L' = [(0, .slice a1 (List.length p0) c1), (3, .pointer (some ⟨b1, 0, none⟩)), (5, .int .i64 s1)] ∧ m.le m3 ∧ St m3 (opc a1 (acellsM (fun x : Int × ByteArray × ByteArray => ([.int .i64 x.1, .string x.2.1, .string x.2.2] : List Value)) p0 T1) 29 :: own) w' ∧ MRow m3 b1 0 [.int .i64 p1.1, .string p1.2.1, .string p1.2.2]) N ⟨0, m1, hr, rfl, hm, st, hb1⟩ ?_)
 clear st hr
 rintro k1 _ w3 ⟨s1, m3, hL, rfl, hm, st, hb1⟩
 rcases k1 with _ | k1
 ·exact loopM_zero hL
 ·obtain ⟨qu1, hr, hSu1, hBu1⟩ := loopM_succ hL
  clear hL
  unfold testgateref10_Insert_L1 at hr
  refine W_seq ?_
  refine W_seq ?_
  replace ⟨o2, hr, hrK⟩ := bindS hr
  refine W_cut .normal (fun L' w' => ∃ (m4 : Mem), L' = [(0, .slice a1 (List.length p0) c1), (3, .pointer (some ⟨b1, 0, none⟩)), (5, .int .i64 s1), (17, .bool o2)] ∧ m.le m4 ∧ St m4 (opc a1 (acellsM (fun x : Int × ByteArray × ByteArray => ([.int .i64 x.1, .string x.2.1, .string x.2.2] : List Value)) p0 T1) 29 :: own) w' ∧ MRow m4 b1 0 [.int .i64 p1.1, .string p1.2.1, .string p1.2.2]) ?_ ?_
  ·clear hr st
   have hr := hrK
   clear hrK
   rintro _ w4 ⟨m4, rfl, hm, st, hb1⟩
   refine X_then ?_
   refine W_cond o2 kr ?_ ?_
   ·intro hc
    rw [if_pos hc] at hr
    refine W_skip ?_
    refine X_then ?_
    refine W_block ?_
    refine W_region ?_
    refine WO_seg 3 [(5, .int .i64 (IntKind.wrap .i64 (s1 + 1)))] kr kr ?_
    refine WO_end rfl ?_
    refine X_block ?_
    obtain rfl := Option.some.inj hr
    have hL := hSu1 _ rfl
    exact X_env _ kr (X_round k1 (Nat.lt_succ_self _) ⟨IntKind.wrap .i64 (s1 + 1), m4, hL, rfl, hm, st, hb1⟩)
   ·intro hc
    rw [if_neg (not_true hc)] at hr
    refine W_exit ?_
    refine X_then_exit ?_
    obtain rfl := Option.some.inj hr
    have ho := hBu1 _ rfl
    refine X_then_exit ?_
    exact X_env _ kr (K0_u1 _ _ ⟨s1, m4, ho, rfl, hm, st, hb1⟩)
  ·intro K
   clear hrK
   refine W_draw [(12, fun w' => Inv m3 w' ∧ Piece.holds m3 w' (opc a1 (acellsM (fun x : Int × ByteArray × ByteArray => ([.int .i64 x.1, .string x.2.1, .string x.2.2] : List Value)) p0 T1) 29) ∧ True)] kr st ?_
   clear st
   intro w5 _ st
   have hmS1 := m3.le_refl
   refine ⟨⟨.inr ⟨Inv.anti st.inv hmS1, opc_anti st.head hmS1, trivial⟩, trivial⟩, ?_⟩
   refine WA_pure 0 6 (.int .i64 s1) kr rfl kr (.head _) (QP_then (QP_then (QP_then (QP_block (QP_then QP_body))))) ?_
   refine WA_pure 1 7 (.slice a1 (List.length p0) c1) kr rfl kr (.head _) (QP_then (QP_then (QP_then (QP_block (QP_then QP_body))))) ?_
   refine WA_pure 2 8 (.int .i64 ((List.length p0) : Int)) kr rfl kr (.head _) (QP_then (QP_then (QP_then (QP_block (QP_then QP_body))))) ?_
   refine WA_pure 3 9 (.bool (decide (s1 < ((List.length p0) : Int)))) kr rfl kr (.head _) (QP_then (QP_then (QP_then (QP_block (QP_then QP_body))))) ?_
   refine WA_pure 4 10 (.bool (decide (s1 < ((List.length p0) : Int)))) kr rfl kr (.head _) (QP_then (QP_then (QP_then (QP_block (QP_then QP_body))))) ?_
   rcases bcases (decide (s1 < ((List.length p0) : Int))) with hc | hc
   ·rw [if_pos hc] at hr
    refine WA_fact (t := 10) (b := true) (decide (s1 < ((List.length p0) : Int))) kr hc ?_
    refine WA_pure 5 11 (.slice a1 (List.length p0) c1) kr rfl kr (.head _) (QP_then (QP_then (QP_then (QP_block (QP_then QP_body))))) ?_
    refine WA_pure 6 12 (.int .i64 s1) kr rfl kr (.head _) (QP_then (QP_then (QP_then (QP_block (QP_then QP_body))))) ?_
    replace ⟨x1, hx1, hr⟩ := bindS hr
    refine WA_arrIndexM (t := 23) (e := 29) (x := (.tmp 11)) (y := (.tmp 12)) (k := 3) 7 13 kr rfl kr (.head _) (QP_then (QP_then (QP_then (QP_block (QP_then QP_body))))) (ev (.slice a1 (List.length p0) c1)) (ev (.int .i64 s1)) kr hs1 rfl hx1 ?_
    refine WA_arrLoadM (t := 29) (x := (.tmp 13)) (o := 0) (f := (fun x : Int × ByteArray × ByteArray => ([.int .i64 x.1, .string x.2.1, .string x.2.2] : List Value))) (z := x1) (v := .agg #[.int .i64 x1.1, .string x1.2.1, .string x1.2.2]) 8 14 (fun _ => rfl) (Int.toNat s1 * 3) rfl kr rfl kr (.head _) (QP_then (QP_then (QP_then (QP_block (QP_then QP_body))))) (fun _ h => h.2.1) (ev (.pointer (some ⟨ab a1, Int.toNat s1 * 3, none⟩))) hs1 rfl hx1 kr ?_
    refine WA_load_row (t := 29) (x := (.tmp 3)) 9 15 (.agg #[.int .i64 p1.1, .string p1.2.1, .string p1.2.2]) kr rfl kr (.head _) (QP_then (QP_then (QP_then (QP_block (QP_then QP_body))))) (fun _ h => h.1) (ev (.pointer (some ⟨b1, 0, none⟩))) hb1 kr ?_
    replace ⟨y1, hx2, hr⟩ := bindS hr
    refine WA_one 10 kr  (One_fn 16 100 #[.agg #[.int .i64 x1.1, .string x1.2.1, .string x1.2.2], .agg #[.int .i64 p1.1, .string p1.2.1, .string p1.2.2]] kr rfl ?_)
    refine (testgateref10_Less_ok st hx2).mono ?_
    clear st
    rintro _ w6 ⟨m5, rfl, hle2, st⟩
    refine ⟨_, rfl, ?_⟩
    have hm := Mem.le_trans hm hle2
    have hb1 := hb1.mono hle2
    have hmS1 := Mem.le_trans hmS1 hle2
    refine ⟨⟨.inr ⟨Inv.anti st.inv hmS1, opc_anti st.head hmS1, trivial⟩, trivial⟩, ?_⟩
    refine WA_pure 11 17 (.bool y1) kr rfl kr (.head _) (QP_then (QP_then (QP_then (QP_block (QP_then QP_body))))) ?_
    obtain rfl := Option.some.inj hr
    exact WA_done kr (X_env _ kr (K _ _ ⟨m5, rfl, hm, st, hb1⟩))
   ·rw [if_neg (not_true hc)] at hr
    refine WA_fact (t := 10) (b := false) (decide (s1 < ((List.length p0) : Int))) kr hc ?_
    refine WA_not 5 11 kr rfl kr (.head _) (QP_then (QP_then (QP_then (QP_block (QP_then QP_body))))) ?_
    refine WA_not 6 12 kr rfl kr (.head _) (QP_then (QP_then (QP_then (QP_block (QP_then QP_body))))) ?_
    refine WA_not 7 13 kr rfl kr (.head _) (QP_then (QP_then (QP_then (QP_block (QP_then QP_body))))) ?_
    refine WA_not 8 14 kr rfl kr (.head _) (QP_then (QP_then (QP_then (QP_block (QP_then QP_body))))) ?_
    refine WA_not 9 15 kr rfl kr (.head _) (QP_then (QP_then (QP_then (QP_block (QP_then QP_body))))) ?_
    refine WA_not 10 16 kr rfl kr (.head _) (QP_then (QP_then (QP_then (QP_block (QP_then QP_body))))) ?_
    refine WA_pure 11 17 (.bool false) kr rfl kr (.head _) (QP_then (QP_then (QP_then (QP_block (QP_then QP_body))))) ?_
    obtain rfl := Option.some.inj hr
    exact WA_done kr (X_env _ kr (K _ _ ⟨m3, rfl, hm, st, hb1⟩))
def testgateref11_Set_L1 (N : Nat) (p0 : List (Int × ByteArray × ByteArray)) (s1 : (List (Int × ByteArray × ByteArray)) × Int) : Option (((List (Int × ByteArray × ByteArray)) × Int) ⊕ (((List (Int × ByteArray × ByteArray))))) :=
 if (decide (s1.2 < (List.length p0 : Int))) = true then ((idx p0 s1.2).bind fun x1 => (testgateref10_Insert N s1.1 (x1.1, x1.2.1, x1.2.2)).bind fun y1 => some (.inl (y1, IntKind.wrap .i64 (s1.2 + 1)))) else (some (.inr s1.1))
def testgateref11_Set (N : Nat) (p0 : List (Int × ByteArray × ByteArray)) : Option (List (Int × ByteArray × ByteArray)) :=
 (loopM (testgateref11_Set_L1 N p0) N (([] : List (Int × ByteArray × ByteArray)), 0)).bind fun o1 => some o1
set_option maxHeartbeats 4000000 in
set_option maxRecDepth 100000 in
theorem testgateref11_Set_ok {N : Nat} {m : Mem} {own : List Piece} {w : World} {p0 : List (Int × ByteArray × ByteArray)} {a1 : Option Addr} {c1 : Nat} {r : List (Int × ByteArray × ByteArray)} (st : St m (own) w) (r1 : RepS (cPair (cInt .i64) (cPair cStr cStr)) m a1 c1 p0) (hr : testgateref11_Set N p0 = some r) : Calls Tryd.prog 39 #[.slice a1 (List.length p0) c1] w fun e w' => ∃ (ra1 : Option Addr) (rc1 : Nat) (m' : Mem), e = .returned (.slice ra1 (List.length r) rc1) ∧ m.le m' ∧ St m' (.room ra1 (List.length r) rc1 29 3 :: own) w' ∧ RepS (cPair (cInt .i64) (cPair cStr cStr)) m' ra1 rc1 r := by
 unfold testgateref11_Set at hr
 have hm := m.le_refl
 refine W_calls Tryd.func39 rfl Tryd.ntmps39 [(0, .slice a1 (List.length p0) c1)] kr rfl ?_
 refine W_sr (WO_seg 1 [] kr kr ?_)
 refine WO_et rfl (W_sr ?_)
 refine WO_seg 1 [(3, .slice none (List.length ([] : List (Int × ByteArray × ByteArray))) 0)] kr kr ?_
 refine WO_et rfl (W_seq ?_)
 refine W_sr (WO_seg 3 [(6, .slice a1 (List.length p0) c1), (7, .int .i64 (List.length p0 : Int)), (8, .int .i64 0)] kr kr ?_)
 refine WO_et rfl (W_block ?_)
 have st := room_opc (f := (fun x : Int × ByteArray × ByteArray => ([.int .i64 x.1, .string x.2.1, .string x.2.2] : List Value))) (st.nilroom 29 3)
 replace ⟨out1, hr, hrKu1⟩ := bindS hr
 refine W_cut (.exit 0) (fun L' w' => ∃ (o1 : (List (Int × ByteArray × ByteArray))) (a2 : Option Addr) (c2 : Nat) (T1 : List Value) (m1 : Mem), o1 = out1 ∧ L' = [(3, .slice a2 (List.length o1) c2)] ∧ m.le m1 ∧ St m1 (opc a2 (acellsM (fun x : Int × ByteArray × ByteArray => ([.int .i64 x.1, .string x.2.1, .string x.2.2] : List Value)) o1 T1) 29 :: own) w' ∧ OAS a2 (List.length o1) c2 3 T1) ?_ ?_
 ·clear hr st
  rintro _ w1 ⟨o1, a2, c2, T1, m1, rfl, rfl, hm, st, hs1⟩
  have hr := hrKu1
  clear hrKu1
  refine X_block_eq ?_
  refine X_then ?_
  refine W_sr (WO_seg 2 [(2, .slice a2 (List.length o1) c2)] kr kr ?_)
  refine WO_et rfl (W_ret ?_)
  obtain rfl := Option.some.inj hr
  obtain ⟨m4, hle2, st, r2⟩ := St.freezeM (c := (cPair (cInt .i64) (cPair cStr cStr))) (f := (fun x : Int × ByteArray × ByteArray => ([.int .i64 x.1, .string x.2.1, .string x.2.2] : List Value))) st hs1 rfl (fun _ => rfl) (fun _ x => ⟨_, _, rfl, rfl, ⟨_, _, rfl, rfl, rfl⟩⟩)
  have hm := Mem.le_trans hm hle2
  refine X_ret [.tmp 2] [.slice a2 (List.length o1) c2] rfl (ResAll.cons (ResAt.tmp kr) ResAll.nil) ?_
  exact ⟨a2, c2, m4, rfl, hm, st, r2⟩
 intro K0_u1
 clear hrKu1
 refine W_env _ kr (W_loop (fun k1 L' w' => ∃ (s1 : (List (Int × ByteArray × ByteArray)) × Int) (a3 : Option Addr) (c3 : Nat) (T2 : List Value) (m2 : Mem), loopM (testgateref11_Set_L1 N p0) k1 s1 = some out1 ∧ L' = [(3, .slice a3 (List.length s1.1) c3), (6, .slice a1 (List.length p0) c1), (7, .int .i64 (List.length p0 : Int)), (8, .int .i64 s1.2)] ∧ m.le m2 ∧ St m2 (opc a3 (acellsM (fun x : Int × ByteArray × ByteArray => ([.int .i64 x.1, .string x.2.1, .string x.2.2] : List Value)) s1.1 T2) 29 :: own) w' ∧ RepS (cPair (cInt .i64) (cPair cStr cStr)) m2 a1 c1 p0 ∧ OAS a3 (List.length s1.1) c3 3 T2) N ⟨(([] : List (Int × ByteArray × ByteArray)), 0), none, 0, [], m, hr, rfl, hm, st, r1, (OAS.nil 3)⟩ ?_)
 clear st hr
 rintro k1 _ w2 ⟨s1, a3, c3, T2, m2, hL, rfl, hm, st, r1, hs2⟩
 rcases k1 with _ | k1
 ·exact loopM_zero hL
 ·obtain ⟨qu1, hr, hSu1, hBu1⟩ := loopM_succ hL
  clear hL
  unfold testgateref11_Set_L1 at hr
  refine W_sr (WO_seg 1 [(9, .bool (decide (s1.2 < (List.length p0 : Int))))] kr kr ?_)
  refine WO_et rfl (W_seq ?_)
  refine W_cond (decide (s1.2 < (List.length p0 : Int))) kr ?_ ?_
  ·intro hc
   rw [if_pos hc] at hr
   refine W_skip ?_
   refine X_then ?_
   refine W_seq ?_
   refine W_block ?_
   refine W_sr ?_
   replace ⟨x1, hx1, hr⟩ := bindS hr
   refine WO_one rfl (One_index (d := 10) (t := 23) (e := 29) (x := (.tmp 6)) (y := (.tmp 8)) (cPair (cInt .i64) (cPair cStr cStr)) kr rfl (ev (.slice a1 (List.length p0) c1)) (ev (.int .i64 s1.2)) kr r1 hx1 ?_)
   rintro b1 f1 cs1 ⟨_, _, rfl, rfl, ⟨_, _, rfl, rfl, rfl⟩⟩ hq1
   refine WO_one rfl (One_load_row (d := 11) (t := 29) (x := (.tmp 10)) (.agg #[.int .i64 x1.1, .string x1.2.1, .string x1.2.2]) kr rfl (ev (.pointer (some ⟨b1, f1, none⟩))) st hq1 kr ?_)
   refine WO_one rfl (One_alloc (d := 5) (e := 29) (.agg #[.int .i64 0, .string (⟨#[]⟩ : ByteArray), .string (⟨#[]⟩ : ByteArray)]) kr rfl kr st ?_)
   clear st
   intro b2 w3 st
   refine WO_one rfl (One_store (t := 29) (x := (.tmp 5)) (y := (.tmp 11)) (v := .agg #[.int .i64 x1.1, .string x1.2.1, .string x1.2.2]) (c' := #[.int .i64 x1.1, .string x1.2.1, .string x1.2.2]) kr (ev (.pointer (some ⟨b2, 0, none⟩))) (ev (.agg #[.int .i64 x1.1, .string x1.2.1, .string x1.2.2])) st kr kr ?_)
   clear st
   intro w4 st
   refine WO_et rfl (W_region ?_)
   refine WO_seg 1 [(12, .slice a3 (List.length s1.1) c3)] kr kr ?_
   refine WO_one rfl (One_load_own (d := 13) (t := 29) (x := (.tmp 5)) (.agg #[.int .i64 x1.1, .string x1.2.1, .string x1.2.2]) kr rfl (ev (.pointer (some ⟨b2, 0, none⟩))) st.head kr ?_)
   have st := st.front1
   replace ⟨y1, hx2, hr⟩ := bindS hr
   refine WO_one rfl (One_fn 14 69 #[.slice a3 (List.length s1.1) c3, .agg #[.int .i64 x1.1, .string x1.2.1, .string x1.2.2]] kr rfl ?_)
   refine (testgateref10_Insert_ok st hs2 hx2).mono ?_
   clear st
   rintro _ w5 ⟨a4, c4, T3, m3, rfl, hle1, st, hs3⟩
   refine ⟨_, rfl, ?_⟩
   have hm := Mem.le_trans hm hle1
   have r1 := r1.mono hle1
   refine WO_seg 1 [(3, .slice a4 (List.length y1) c4)] kr kr ?_
   refine WO_end rfl ?_
   refine X_block ?_
   refine X_then ?_
   refine W_region ?_
   refine WO_seg 2 [(8, .int .i64 (IntKind.wrap .i64 (s1.2 + 1)))] kr kr ?_
   refine WO_end rfl ?_
   obtain rfl := Option.some.inj hr
   have hL := hSu1 _ rfl
   have st := st.front1
   have st := st.tail
   exact X_env _ kr (X_round k1 (Nat.lt_succ_self _) ⟨(y1, IntKind.wrap .i64 (s1.2 + 1)), a4, c4, T3, m3, hL, rfl, hm, st, r1, hs3⟩)
  ·intro hc
   rw [if_neg (not_true hc)] at hr
   refine W_exit ?_
   refine X_then_exit ?_
   obtain rfl := Option.some.inj hr
   have ho := hBu1 _ rfl
   refine X_then_exit ?_
   exact X_env _ kr (K0_u1 _ _ ⟨s1.1, a3, c3, T2, m2, ho, rfl, hm, st, hs2⟩)
def testgatemake_Tape_Chance (N : Nat) (p0 : List Int × Int) (p1 : Int) (p2 : Int) : Option ((List Int × Int) × Bool) :=
 (testgatemake_Tape_Next N (p0.1, p0.2) p2).bind fun y1 => some ((y1.1.1, y1.1.2), decide (y1.2 < p1))
set_option maxHeartbeats 4000000 in
set_option maxRecDepth 100000 in
theorem testgatemake_Tape_Chance_ok {N : Nat} {m : Mem} {own : List Piece} {w : World} {p0 : List Int × Int} {p1 : Int} {p2 : Int} {bp0 : Nat} {a1 : Option Addr} {c1 : Nat} {r : (List Int × Int) × Bool} (st : St m (.blk bp0 (.cells #[.slice a1 (List.length p0.1) c1, .int .i64 p0.2] 26 (0, 0)) :: own) w) (r1 : RepS (cInt .i64) m a1 c1 p0.1) (hr : testgatemake_Tape_Chance N p0 p1 p2 = some r) : Calls Tryd.prog 9 #[.pointer (some ⟨bp0, 0, none⟩), .int .i64 p1, .int .i64 p2] w fun e w' => ∃ (ra1 : Option Addr) (rc1 : Nat) (m' : Mem), e = .returned (.bool r.2) ∧ m.le m' ∧ St m' (.blk bp0 (.cells #[.slice ra1 (List.length r.1.1) rc1, .int .i64 r.1.2] 26 (0, 0)) :: own) w' ∧ RepS (cInt .i64) m' ra1 rc1 r.1.1 := by
 unfold testgatemake_Tape_Chance at hr
 have hm := m.le_refl
 refine W_calls Tryd.func9 rfl Tryd.ntmps9 [(0, .pointer (some ⟨bp0, 0, none⟩)), (1, .int .i64 p1), (2, .int .i64 p2)] kr rfl ?_
 refine W_sr (WO_seg 1 [] kr kr ?_)
 refine WO_et rfl (W_sr ?_)
 refine WO_seg 2 [(7, .pointer (some ⟨bp0, 0, none⟩)), (8, .int .i64 p2)] kr kr ?_
 replace ⟨y1, hx1, hr⟩ := bindS hr
 refine WO_one rfl (One_fn 9 7 #[.pointer (some ⟨bp0, 0, none⟩), .int .i64 p2] kr rfl ?_)
 refine (testgatemake_Tape_Next_ok st r1 hx1).mono ?_
 clear st
 rintro _ w1 ⟨a2, c2, m1, rfl, hle1, st, r2⟩
 refine ⟨_, rfl, ?_⟩
 have hm := Mem.le_trans hm hle1
 have r1 := r1.mono hle1
 refine WO_seg 3 [(6, .bool (decide (y1.2 < p1)))] kr kr ?_
 refine WO_et rfl (W_ret ?_)
 obtain rfl := Option.some.inj hr
 refine X_ret [.tmp 6] [.bool (decide (y1.2 < p1))] rfl (ResAll.cons (ResAt.tmp kr) ResAll.nil) ?_
 exact ⟨a2, c2, m1, rfl, hm, st, r2⟩
def testgatelaw18_records_L2 (N : Nat) (s2 : (List (Int × ByteArray × ByteArray)) × Int × List (Int) × Int) : Option (((List (Int × ByteArray × ByteArray)) × Int × List (Int) × Int) ⊕ (((List (Int × ByteArray × ByteArray)) × List (Int) × Int))) :=
 if (decide (s2.2.1 > 0)) = true then ((testgatemake_Key N (s2.2.2.1, s2.2.2.2)).bind fun y3 => (appendS 40 s2.1 ([(y3.2.1, y3.2.2.1, y3.2.2.2)])).bind fun l1 => some (.inl (l1, IntKind.wrap .i64 (s2.2.1 - 1), y3.1.1, y3.1.2))) else (some (.inr (s2.1, s2.2.2.1, s2.2.2.2)))
def testgatelaw18_records_L3 (N : Nat) (y4 : List (Int × ByteArray × ByteArray)) (s3 : Int × (List ((Int × ByteArray × ByteArray) × Int)) × List (Int) × Int) : Option ((Int × (List ((Int × ByteArray × ByteArray) × Int)) × List (Int) × Int) ⊕ (((List ((Int × ByteArray × ByteArray) × Int)) × List (Int) × Int))) :=
 if (decide (s3.1 < (List.length y4 : Int))) = true then ((idx y4 s3.1).bind fun x1 => (testgatemake_Tape_Next N (s3.2.2.1, s3.2.2.2) 3).bind fun y5 => (appendS 48 s3.2.1 ([((x1.1, x1.2.1, x1.2.2), y5.2)])).bind fun l2 => some (.inl (IntKind.wrap .i64 (s3.1 + 1), l2, y5.1.1, y5.1.2))) else (some (.inr (s3.2.1, s3.2.2.1, s3.2.2.2)))
def testgatelaw18_records_L1 (N : Nat) (s1 : (List ((ByteArray × ByteArray) × Int × Int × Int × (Int × Int × Int) × Bool × (List ((Int × ByteArray × ByteArray) × Int)))) × Int × List (Int) × Int) : Option (((List ((ByteArray × ByteArray) × Int × Int × Int × (Int × Int × Int) × Bool × (List ((Int × ByteArray × ByteArray) × Int)))) × Int × List (Int) × Int) ⊕ (((List ((ByteArray × ByteArray) × Int × Int × Int × (Int × Int × Int) × Bool × (List ((Int × ByteArray × ByteArray) × Int)))) × List (Int) × Int))) :=
 if (decide (s1.2.1 > 0)) = true then ((testgatemake_Tape_Next N (s1.2.2.1, s1.2.2.2) 5).bind fun y2 => (loopM (testgatelaw18_records_L2 N) N (([] : List (Int × ByteArray × ByteArray)), y2.2, y2.1.1, y2.1.2)).bind fun o2 => (testgateref11_Set N o2.1).bind fun y4 => (loopM (testgatelaw18_records_L3 N y4) N (0, ([] : List ((Int × ByteArray × ByteArray) × Int)), o2.2.1, o2.2.2)).bind fun o3 => (testgatemake_Tape_Chance N (o3.2.1, o3.2.2) 1 30).bind fun y6 => (if y6.2 = true then ((appendS 48 o3.1 ([((0, (⟨#[]⟩ : ByteArray), (⟨#[]⟩ : ByteArray)), 0)])).bind fun l3 => some l3) else (some o3.1) : Option ((List ((Int × ByteArray × ByteArray) × Int)))).bind fun o4 => (appendS 112 s1.1 ([(((⟨#[]⟩ : ByteArray), (⟨#[]⟩ : ByteArray)), 0, 0, 0, (0, 0, 0), false, o4)])).bind fun l4 => some (.inl (l4, IntKind.wrap .i64 (s1.2.1 - 1), y6.1.1, y6.1.2))) else (some (.inr (s1.1, s1.2.2.1, s1.2.2.2)))
def testgatelaw18_records (N : Nat) (p0 : List Int × Int) : Option ((List Int × Int) × (List ((ByteArray × ByteArray) × Int × Int × Int × (Int × Int × Int) × Bool × (List ((Int × ByteArray × ByteArray) × Int))))) :=
 (testgatemake_Tape_Next N (p0.1, p0.2) 7).bind fun y1 => (loopM (testgatelaw18_records_L1 N) N (([] : List ((ByteArray × ByteArray) × Int × Int × Int × (Int × Int × Int) × Bool × (List ((Int × ByteArray × ByteArray) × Int)))), y1.2, y1.1.1, y1.1.2)).bind fun o1 => some ((o1.2.1, o1.2.2), o1.1)
set_option maxHeartbeats 4000000 in
set_option maxRecDepth 100000 in
theorem testgatelaw18_records_ok {N : Nat} {m : Mem} {own : List Piece} {w : World} {p0 : List Int × Int} {bp0 : Nat} {a1 : Option Addr} {c1 : Nat} {r : (List Int × Int) × (List ((ByteArray × ByteArray) × Int × Int × Int × (Int × Int × Int) × Bool × (List ((Int × ByteArray × ByteArray) × Int))))} (st : St m (.blk bp0 (.cells #[.slice a1 (List.length p0.1) c1, .int .i64 p0.2] 26 (0, 0)) :: own) w) (r1 : RepS (cInt .i64) m a1 c1 p0.1) (hr : testgatelaw18_records N p0 = some r) : Calls Tryd.prog 25 #[.pointer (some ⟨bp0, 0, none⟩)] w fun e w' => ∃ (ra1 : Option Addr) (rc1 : Nat) (ra2 : Option Addr) (rc2 : Nat) (m' : Mem), e = .returned (.slice ra2 (List.length r.2) rc2) ∧ m.le m' ∧ St m' (.room ra2 (List.length r.2) rc2 73 10 :: .blk bp0 (.cells #[.slice ra1 (List.length r.1.1) rc1, .int .i64 r.1.2] 26 (0, 0)) :: own) w' ∧ RepS (cInt .i64) m' ra1 rc1 r.1.1 ∧ RepS (cPair (cPair cStr cStr) (cPair (cInt .i64) (cPair (cInt .i64) (cPair (cInt .i64) (cPair (cPair (cInt .i64) (cPair (cInt .i64) (cInt .i64))) (cPair cBool (cSl (cPair (cPair (cInt .i64) (cPair cStr cStr)) (cInt .i64))))))))) m' ra2 rc2 r.2 := by
 unfold testgatelaw18_records at hr
 have hm := m.le_refl
 refine W_calls Tryd.func25 rfl Tryd.ntmps25 [(0, .pointer (some ⟨bp0, 0, none⟩))] kr rfl ?_
 refine W_sr (WO_seg 1 [] kr kr ?_)
 refine WO_et rfl (W_sr ?_)
 refine WO_seg 1 [(3, .slice none (List.length ([] : List ((ByteArray × ByteArray) × Int × Int × Int × (Int × Int × Int) × Bool × (List ((Int × ByteArray × ByteArray) × Int))))) 0)] kr kr ?_
 refine WO_et rfl (W_seq ?_)
 refine W_sr (WO_seg 1 [(10, .pointer (some ⟨bp0, 0, none⟩))] kr kr ?_)
 replace ⟨y1, hx1, hr⟩ := bindS hr
 refine WO_one rfl (One_fn 11 7 #[.pointer (some ⟨bp0, 0, none⟩), .int .i64 7] kr rfl ?_)
 refine (testgatemake_Tape_Next_ok st r1 hx1).mono ?_
 clear st
 rintro _ w1 ⟨a2, c2, m1, rfl, hle1, st, r2⟩
 refine ⟨_, rfl, ?_⟩
 have hm := Mem.le_trans hm hle1
 have r1 := r1.mono hle1
 refine WO_seg 1 [(4, .int .i64 y1.2)] kr kr ?_
 refine WO_et rfl (W_block ?_)
 replace ⟨out1, hr, hrKu1⟩ := bindS hr
 refine W_cut (.exit 0) (fun L' w' => ∃ (o1 : (List ((ByteArray × ByteArray) × Int × Int × Int × (Int × Int × Int) × Bool × (List ((Int × ByteArray × ByteArray) × Int)))) × List (Int) × Int) (a3 : Option Addr) (c3 : Nat) (a4 : Option Addr) (c4 : Nat) (m2 : Mem), o1 = out1 ∧ L' = [(3, .slice a3 (List.length o1.1) c3)] ∧ m.le m2 ∧ St m2 (.blk bp0 (.cells #[.slice a4 (List.length o1.2.1) c4, .int .i64 o1.2.2] 26 (0, 0)) :: .room a3 (List.length o1.1) c3 73 10 :: own) w' ∧ RepS (cPair (cPair cStr cStr) (cPair (cInt .i64) (cPair (cInt .i64) (cPair (cInt .i64) (cPair (cPair (cInt .i64) (cPair (cInt .i64) (cInt .i64))) (cPair cBool (cSl (cPair (cPair (cInt .i64) (cPair cStr cStr)) (cInt .i64))))))))) m2 a3 c3 o1.1 ∧ RepS (cInt .i64) m2 a4 c4 o1.2.1) ?_ ?_
 ·clear hr st
  rintro _ w2 ⟨o1, a3, c3, a4, c4, m2, rfl, rfl, hm, st, r3, r4⟩
  have hr := hrKu1
  clear hrKu1
  refine X_block_eq ?_
  refine X_then ?_
  refine W_sr (WO_seg 2 [(2, .slice a3 (List.length o1.1) c3)] kr kr ?_)
  refine WO_et rfl (W_ret ?_)
  obtain rfl := Option.some.inj hr
  refine X_ret [.tmp 2] [.slice a3 (List.length o1.1) c3] rfl (ResAll.cons (ResAt.tmp kr) ResAll.nil) ?_
  have st := st.front1
  exact ⟨a4, c4, a3, c3, m2, rfl, hm, st, r4, r3⟩
 intro K0_u1
 clear hrKu1
 have st := st.nilroom 73 10
 have st := st.front1
 refine W_env _ kr (W_loop (fun k1 L' w' => ∃ (s1 : (List ((ByteArray × ByteArray) × Int × Int × Int × (Int × Int × Int) × Bool × (List ((Int × ByteArray × ByteArray) × Int)))) × Int × List (Int) × Int) (a5 : Option Addr) (c5 : Nat) (a6 : Option Addr) (c6 : Nat) (m3 : Mem), loopM (testgatelaw18_records_L1 N) k1 s1 = some out1 ∧ L' = [(0, .pointer (some ⟨bp0, 0, none⟩)), (3, .slice a5 (List.length s1.1) c5), (4, .int .i64 s1.2.1)] ∧ m.le m3 ∧ St m3 (.blk bp0 (.cells #[.slice a6 (List.length s1.2.2.1) c6, .int .i64 s1.2.2.2] 26 (0, 0)) :: .room a5 (List.length s1.1) c5 73 10 :: own) w' ∧ RepS (cPair (cPair cStr cStr) (cPair (cInt .i64) (cPair (cInt .i64) (cPair (cInt .i64) (cPair (cPair (cInt .i64) (cPair (cInt .i64) (cInt .i64))) (cPair cBool (cSl (cPair (cPair (cInt .i64) (cPair cStr cStr)) (cInt .i64))))))))) m3 a5 c5 s1.1 ∧ RepS (cInt .i64) m3 a6 c6 s1.2.2.1) N ⟨(([] : List ((ByteArray × ByteArray) × Int × Int × Int × (Int × Int × Int) × Bool × (List ((Int × ByteArray × ByteArray) × Int)))), y1.2, y1.1.1, y1.1.2), none, 0, a2, c2, m1, hr, rfl, hm, st, (RepS.nil _ _), r2⟩ ?_)
 clear st hr
 rintro k1 _ w3 ⟨s1, a5, c5, a6, c6, m3, hL, rfl, hm, st, r5, r6⟩
 rcases k1 with _ | k1
 ·exact loopM_zero hL
 ·obtain ⟨qu1, hr, hSu1, hBu1⟩ := loopM_succ hL
  clear hL
  unfold testgatelaw18_records_L1 at hr
  refine W_seq ?_
  refine W_sr (WO_seg 2 [(13, .bool (decide (s1.2.1 > 0)))] kr kr ?_)
  refine WO_et rfl (W_cond (decide (s1.2.1 > 0)) kr ?_ ?_)
  ·intro hc
   rw [if_pos hc] at hr
   refine W_skip ?_
   refine X_then ?_
   refine W_seq ?_
   refine W_block ?_
   refine W_sr (WO_seg 1 [(5, .slice none (List.length ([] : List (Int × ByteArray × ByteArray))) 0)] kr kr ?_)
   refine WO_et rfl (W_seq ?_)
   refine W_sr (WO_seg 1 [(16, .pointer (some ⟨bp0, 0, none⟩))] kr kr ?_)
   replace ⟨y2, hx2, hr⟩ := bindS hr
   refine WO_one rfl (One_fn 17 7 #[.pointer (some ⟨bp0, 0, none⟩), .int .i64 5] kr rfl ?_)
   refine (testgatemake_Tape_Next_ok st r6 hx2).mono ?_
   clear st
   rintro _ w4 ⟨a7, c7, m4, rfl, hle2, st, r7⟩
   refine ⟨_, rfl, ?_⟩
   have hm := Mem.le_trans hm hle2
   have r5 := r5.mono hle2
   have r6 := r6.mono hle2
   refine WO_seg 1 [(6, .int .i64 y2.2)] kr kr ?_
   refine WO_et rfl (W_block ?_)
   replace ⟨out2, hr, hrKu2⟩ := bindS hr
   refine W_cut (.exit 2) (fun L' w' => ∃ (o2 : (List (Int × ByteArray × ByteArray)) × List (Int) × Int) (a8 : Option Addr) (c8 : Nat) (a9 : Option Addr) (c9 : Nat) (m5 : Mem), o2 = out2 ∧ L' = [(0, .pointer (some ⟨bp0, 0, none⟩)), (3, .slice a5 (List.length s1.1) c5), (4, .int .i64 s1.2.1), (5, .slice a8 (List.length o2.1) c8)] ∧ m.le m5 ∧ St m5 (.blk bp0 (.cells #[.slice a9 (List.length o2.2.1) c9, .int .i64 o2.2.2] 26 (0, 0)) :: .room a5 (List.length s1.1) c5 73 10 :: .room a8 (List.length o2.1) c8 29 3 :: own) w' ∧ RepS (cPair (cPair cStr cStr) (cPair (cInt .i64) (cPair (cInt .i64) (cPair (cInt .i64) (cPair (cPair (cInt .i64) (cPair (cInt .i64) (cInt .i64))) (cPair cBool (cSl (cPair (cPair (cInt .i64) (cPair cStr cStr)) (cInt .i64))))))))) m5 a5 c5 s1.1 ∧ RepS (cPair (cInt .i64) (cPair cStr cStr)) m5 a8 c8 o2.1 ∧ RepS (cInt .i64) m5 a9 c9 o2.2.1) ?_ ?_
   ·clear hr st
    rintro _ w5 ⟨o2, a8, c8, a9, c9, m5, rfl, rfl, hm, st, r5, r8, r9⟩
    have hr := hrKu2
    clear hrKu2
    refine X_block_eq ?_
    refine X_then ?_
    refine W_sr (WO_one rfl (One_alloc (d := 7) (e := 73) (.agg #[.string (⟨#[]⟩ : ByteArray), .string (⟨#[]⟩ : ByteArray), .int .i64 0, .int .i64 0, .int .i64 0, .int .i64 0, .int .i64 0, .int .i64 0, .bool false, .slice none 0 0]) kr rfl kr st ?_))
    clear st
    intro b2 w10 st
    refine WO_et rfl (W_seq ?_)
    refine W_sr (WO_seg 1 [(27, .slice a8 (List.length o2.1) c8)] kr kr ?_)
    replace ⟨y4, hx5, hr⟩ := bindS hr
    refine WO_one rfl (One_fn 28 39 #[.slice a8 (List.length o2.1) c8] kr rfl ?_)
    refine (testgateref11_Set_ok st r8 hx5).mono ?_
    clear st
    rintro _ w11 ⟨a14, c14, m10, rfl, hle6, st, r15⟩
    refine ⟨_, rfl, ?_⟩
    have hm := Mem.le_trans hm hle6
    have r5 := r5.mono hle6
    have r8 := r8.mono hle6
    have r9 := r9.mono hle6
    refine WO_seg 2 [(29, .int .i64 (List.length y4 : Int)), (30, .int .i64 0)] kr kr ?_
    refine WO_end rfl ?_
    have st := st.front4
    have st := st.tail
    refine X_then ?_
    refine W_block ?_
    replace ⟨out3, hr, hrKu3⟩ := bindS hr
    refine W_cut (.exit 4) (fun L' w' => ∃ (o3 : (List ((Int × ByteArray × ByteArray) × Int)) × List (Int) × Int) (a15 : Option Addr) (c15 : Nat) (a16 : Option Addr) (c16 : Nat) (m11 : Mem), o3 = out3 ∧ L' = [(0, .pointer (some ⟨bp0, 0, none⟩)), (3, .slice a5 (List.length s1.1) c5), (4, .int .i64 s1.2.1), (7, .pointer (some ⟨b2, 0, none⟩))] ∧ m.le m11 ∧ St m11 (.blk b2 (.cells #[.string (⟨#[]⟩ : ByteArray), .string (⟨#[]⟩ : ByteArray), .int .i64 0, .int .i64 0, .int .i64 0, .int .i64 0, .int .i64 0, .int .i64 0, .bool false, .slice a15 (List.length o3.1) c15] 73 (0, 0)) :: .blk bp0 (.cells #[.slice a16 (List.length o3.2.1) c16, .int .i64 o3.2.2] 26 (0, 0)) :: .room a14 (List.length y4) c14 29 3 :: .room a5 (List.length s1.1) c5 73 10 :: .room a15 (List.length o3.1) c15 102 4 :: own) w' ∧ RepS (cPair (cPair cStr cStr) (cPair (cInt .i64) (cPair (cInt .i64) (cPair (cInt .i64) (cPair (cPair (cInt .i64) (cPair (cInt .i64) (cInt .i64))) (cPair cBool (cSl (cPair (cPair (cInt .i64) (cPair cStr cStr)) (cInt .i64))))))))) m11 a5 c5 s1.1 ∧ RepS (cPair (cPair (cInt .i64) (cPair cStr cStr)) (cInt .i64)) m11 a15 c15 o3.1 ∧ RepS (cInt .i64) m11 a16 c16 o3.2.1) ?_ ?_
    ·clear hr st
     rintro _ w12 ⟨o3, a15, c15, a16, c16, m11, rfl, rfl, hm, st, r5, r16, r17⟩
     have hr := hrKu3
     clear hrKu3
     refine X_block_eq ?_
     refine X_then ?_
     refine W_seq ?_
     refine W_sr (WO_seg 1 [(44, .pointer (some ⟨bp0, 0, none⟩))] kr kr ?_)
     have st := st.front1
     replace ⟨y6, hx9, hr⟩ := bindS hr
     refine WO_one rfl (One_fn 45 9 #[.pointer (some ⟨bp0, 0, none⟩), .int .i64 1, .int .i64 30] kr rfl ?_)
     refine (testgatemake_Tape_Chance_ok st r17 hx9).mono ?_
     clear st
     rintro _ w21 ⟨a21, c21, m16, rfl, hle10, st, r23⟩
     refine ⟨_, rfl, ?_⟩
     have hm := Mem.le_trans hm hle10
     have r5 := r5.mono hle10
     have r17 := r17.mono hle10
     have r16 := r16.mono hle10
     refine WO_end rfl ?_
     have st := st.front2
     have st := st.tail
     refine X_then ?_
     replace ⟨o4, hr, hrKu4⟩ := bindS hr
     refine W_cut .normal (fun L' w' => ∃ (a22 : Option Addr) (c22 : Nat) (m17 : Mem), L' = [(0, .pointer (some ⟨bp0, 0, none⟩)), (3, .slice a5 (List.length s1.1) c5), (4, .int .i64 s1.2.1), (7, .pointer (some ⟨b2, 0, none⟩))] ∧ m.le m17 ∧ St m17 (.blk bp0 (.cells #[.slice a21 (List.length y6.1.1) c21, .int .i64 y6.1.2] 26 (0, 0)) :: .blk b2 (.cells #[.string (⟨#[]⟩ : ByteArray), .string (⟨#[]⟩ : ByteArray), .int .i64 0, .int .i64 0, .int .i64 0, .int .i64 0, .int .i64 0, .int .i64 0, .bool false, .slice a22 (List.length o4) c22] 73 (0, 0)) :: .room a5 (List.length s1.1) c5 73 10 :: .room a22 (List.length o4) c22 102 4 :: own) w' ∧ RepS (cPair (cPair cStr cStr) (cPair (cInt .i64) (cPair (cInt .i64) (cPair (cInt .i64) (cPair (cPair (cInt .i64) (cPair (cInt .i64) (cInt .i64))) (cPair cBool (cSl (cPair (cPair (cInt .i64) (cPair cStr cStr)) (cInt .i64))))))))) m17 a5 c5 s1.1 ∧ RepS (cInt .i64) m17 a21 c21 y6.1.1 ∧ RepS (cPair (cPair (cInt .i64) (cPair cStr cStr)) (cInt .i64)) m17 a22 c22 o4) ?_ ?_
     ·clear hr st
      have hr := hrKu4
      clear hrKu4
      rintro _ w22 ⟨a22, c22, m17, rfl, hm, st, r5, r23, r24⟩
      refine X_then ?_
      refine W_region ?_
      refine WO_seg 1 [(52, .slice a5 (List.length s1.1) c5)] kr kr ?_
      refine WO_one rfl (One_load_own (d := 53) (t := 73) (x := (.tmp 7)) (.agg #[.string (⟨#[]⟩ : ByteArray), .string (⟨#[]⟩ : ByteArray), .int .i64 0, .int .i64 0, .int .i64 0, .int .i64 0, .int .i64 0, .int .i64 0, .bool false, .slice a22 (List.length o4) c22]) kr rfl (ev (.pointer (some ⟨b2, 0, none⟩))) st.tail.head kr ?_)
      refine WO_one rfl (One_buildSlice (d := 54) (t := 60) (e := 73) (len := 1) (parts := #[(0, (.tmp 53))]) (cPair (cPair cStr cStr) (cPair (cInt .i64) (cPair (cInt .i64) (cPair (cInt .i64) (cPair (cPair (cInt .i64) (cPair (cInt .i64) (cInt .i64))) (cPair cBool (cSl (cPair (cPair (cInt .i64) (cPair cStr cStr)) (cInt .i64))))))))) (xs := [(((⟨#[]⟩ : ByteArray), (⟨#[]⟩ : ByteArray)), 0, 0, 0, (0, 0, 0), false, o4)]) [.string (⟨#[]⟩ : ByteArray), .string (⟨#[]⟩ : ByteArray), .int .i64 0, .int .i64 0, .int .i64 0, .int .i64 0, .int .i64 0, .int .i64 0, .bool false, .slice a22 (List.length o4) c22] kr rfl (fun _ => buildCells_run kr _) rfl rfl st ⟨[.string (⟨#[]⟩ : ByteArray), .string (⟨#[]⟩ : ByteArray), .int .i64 0, .int .i64 0, .int .i64 0, .int .i64 0, .int .i64 0, .int .i64 0, .bool false, .slice a22 (List.length o4) c22], _, rfl, ⟨_, _, rfl, ⟨_, _, rfl, rfl, rfl⟩, ⟨_, _, rfl, rfl, ⟨_, _, rfl, rfl, ⟨_, _, rfl, rfl, ⟨_, _, rfl, ⟨_, _, rfl, rfl, ⟨_, _, rfl, rfl, rfl⟩⟩, ⟨_, _, rfl, rfl, (cSl_mk r24)⟩⟩⟩⟩⟩⟩, rfl⟩ ?_)
      clear st
      intro b7 m20 w26 hle13 st r27
      have hm := Mem.le_trans hm hle13
      have r5 := r5.mono hle13
      have r24 := r24.mono hle13
      have r23 := r23.mono hle13
      have st := st.front3
      replace ⟨l4, hx11, hr⟩ := bindS hr
      refine WO_one rfl (One_append (d := 55) (t := 60) (u := 60) (e := 73) (by_ := 112) (x := (.tmp 52)) (y := (.tmp 54)) (cPair (cPair cStr cStr) (cPair (cInt .i64) (cPair (cInt .i64) (cPair (cInt .i64) (cPair (cPair (cInt .i64) (cPair (cInt .i64) (cInt .i64))) (cPair cBool (cSl (cPair (cPair (cInt .i64) (cPair cStr cStr)) (cInt .i64))))))))) kr rfl (ev (.slice a5 (List.length s1.1) c5)) (ev (.slice (some ⟨b7, 0, none⟩) (List.length ([(((⟨#[]⟩ : ByteArray), (⟨#[]⟩ : ByteArray)), 0, 0, 0, (0, 0, 0), false, o4)])) 1)) st kr (.inl kr) r5 r27.src hx11 ?_)
      clear st
      intro a24 c24 m21 w27 hle14 st r28
      have hm := Mem.le_trans hm hle14
      have r5 := r5.mono hle14
      have r24 := r24.mono hle14
      have r27 := r27.mono hle14
      have r23 := r23.mono hle14
      refine WO_seg 1 [(3, .slice a24 (List.length l4) c24)] kr kr ?_
      refine WO_end rfl ?_
      have st := st.front1
      have st := st.tail
      refine X_block ?_
      refine X_then ?_
      refine W_region ?_
      refine WO_seg 3 [(4, .int .i64 (IntKind.wrap .i64 (s1.2.1 - 1)))] kr kr ?_
      refine WO_end rfl ?_
      obtain rfl := Option.some.inj hr
      have hL := hSu1 _ rfl
      have st := st.front2
      have st := st.tail
      have st := st.front2
      have st := st.tail
      have st := st.front1
      exact X_env _ kr (X_round k1 (Nat.lt_succ_self _) ⟨(l4, IntKind.wrap .i64 (s1.2.1 - 1), y6.1.1, y6.1.2), a24, c24, a21, c21, m21, hL, rfl, hm, st, r28, r23⟩)
     ·intro Ku4
      clear hrKu4
      refine W_cond y6.2 kr ?_ ?_
      ·intro hc
       rw [if_pos hc] at hr
       refine W_region ?_
       refine WO_seg 1 [(46, .pointer (some ⟨b2, 9, none⟩))] kr kr ?_
       refine WO_one rfl (One_load_own (d := 47) (t := 71) (x := (.tmp 46)) (.slice a15 (List.length o3.1) c15) kr rfl (ev (.pointer (some ⟨b2, 9, none⟩))) st.tail.head kr ?_)
       refine WO_seg 1 [(48, .agg #[.int .i64 0, .string (⟨#[]⟩ : ByteArray), .string (⟨#[]⟩ : ByteArray), .int .i64 0])] kr kr ?_
       refine WO_one rfl (One_buildSlice (d := 49) (t := 71) (e := 102) (len := 1) (parts := #[(0, (.tmp 48))]) (cPair (cPair (cInt .i64) (cPair cStr cStr)) (cInt .i64)) (xs := [((0, (⟨#[]⟩ : ByteArray), (⟨#[]⟩ : ByteArray)), 0)]) [.int .i64 0, .string (⟨#[]⟩ : ByteArray), .string (⟨#[]⟩ : ByteArray), .int .i64 0] kr rfl (fun _ => buildCells_run kr _) rfl rfl st ⟨[.int .i64 0, .string (⟨#[]⟩ : ByteArray), .string (⟨#[]⟩ : ByteArray), .int .i64 0], _, rfl, ⟨_, _, rfl, ⟨_, _, rfl, rfl, ⟨_, _, rfl, rfl, rfl⟩⟩, rfl⟩, rfl⟩ ?_)
       clear st
       intro b6 m18 w23 hle11 st r25
       have hm := Mem.le_trans hm hle11
       have r5 := r5.mono hle11
       have r16 := r16.mono hle11
       have r23 := r23.mono hle11
       have st := st.front4
       replace ⟨l3, hx10, hr⟩ := bindS hr
       refine WO_one rfl (One_append (d := 50) (t := 71) (u := 71) (e := 102) (by_ := 48) (x := (.tmp 47)) (y := (.tmp 49)) (cPair (cPair (cInt .i64) (cPair cStr cStr)) (cInt .i64)) kr rfl (ev (.slice a15 (List.length o3.1) c15)) (ev (.slice (some ⟨b6, 0, none⟩) (List.length ([((0, (⟨#[]⟩ : ByteArray), (⟨#[]⟩ : ByteArray)), 0)])) 1)) st kr (.inl kr) r16 r25.src hx10 ?_)
       clear st
       intro a23 c23 m19 w24 hle12 st r26
       have hm := Mem.le_trans hm hle12
       have r5 := r5.mono hle12
       have r16 := r16.mono hle12
       have r25 := r25.mono hle12
       have r23 := r23.mono hle12
       refine WO_seg 1 [(51, .pointer (some ⟨b2, 9, none⟩))] kr kr ?_
       have st := st.front3
       refine WO_one rfl (One_store (t := 71) (x := (.tmp 51)) (y := (.tmp 50)) (v := .slice a23 (List.length l3) c23) (c' := #[.string (⟨#[]⟩ : ByteArray), .string (⟨#[]⟩ : ByteArray), .int .i64 0, .int .i64 0, .int .i64 0, .int .i64 0, .int .i64 0, .int .i64 0, .bool false, .slice a23 (List.length l3) c23]) kr (ev (.pointer (some ⟨b2, 9, none⟩))) (ev (.slice a23 (List.length l3) c23)) st kr kr ?_)
       clear st
       intro w25 st
       refine WO_end rfl ?_
       have st := st.front2
       have st := st.tail
       obtain rfl := Option.some.inj hr
       have st := st.front1.front3.front2.front3
       exact X_env _ kr (Ku4 _ _ ⟨a23, c23, m19, rfl, hm, st, r5, r23, r26⟩)
      ·intro hc
       rw [if_neg (not_true hc)] at hr
       refine W_skip ?_
       obtain rfl := Option.some.inj hr
       have st := st.front3.front3.front3.front3
       exact X_env _ kr (Ku4 _ _ ⟨a15, c15, m16, rfl, hm, st, r5, r23, r16⟩)
    intro K4_u3
    clear hrKu3
    have st := st.nilroom 102 4
    have st := st.front4.front2.front4.front4
    refine W_env _ kr (W_loop (fun k3 L' w' => ∃ (s3 : Int × (List ((Int × ByteArray × ByteArray) × Int)) × List (Int) × Int) (a17 : Option Addr) (c17 : Nat) (a18 : Option Addr) (c18 : Nat) (m12 : Mem), loopM (testgatelaw18_records_L3 N y4) k3 s3 = some out3 ∧ L' = [(0, .pointer (some ⟨bp0, 0, none⟩)), (3, .slice a5 (List.length s1.1) c5), (4, .int .i64 s1.2.1), (7, .pointer (some ⟨b2, 0, none⟩)), (28, .slice a14 (List.length y4) c14), (29, .int .i64 (List.length y4 : Int)), (30, .int .i64 s3.1)] ∧ m.le m12 ∧ St m12 (.blk b2 (.cells #[.string (⟨#[]⟩ : ByteArray), .string (⟨#[]⟩ : ByteArray), .int .i64 0, .int .i64 0, .int .i64 0, .int .i64 0, .int .i64 0, .int .i64 0, .bool false, .slice a17 (List.length s3.2.1) c17] 73 (0, 0)) :: .blk bp0 (.cells #[.slice a18 (List.length s3.2.2.1) c18, .int .i64 s3.2.2.2] 26 (0, 0)) :: .room a14 (List.length y4) c14 29 3 :: .room a5 (List.length s1.1) c5 73 10 :: .room a17 (List.length s3.2.1) c17 102 4 :: own) w' ∧ RepS (cPair (cPair cStr cStr) (cPair (cInt .i64) (cPair (cInt .i64) (cPair (cInt .i64) (cPair (cPair (cInt .i64) (cPair (cInt .i64) (cInt .i64))) (cPair cBool (cSl (cPair (cPair (cInt .i64) (cPair cStr cStr)) (cInt .i64))))))))) m12 a5 c5 s1.1 ∧ RepS (cPair (cInt .i64) (cPair cStr cStr)) m12 a14 c14 y4 ∧ RepS (cPair (cPair (cInt .i64) (cPair cStr cStr)) (cInt .i64)) m12 a17 c17 s3.2.1 ∧ RepS (cInt .i64) m12 a18 c18 s3.2.2.1) N ⟨(0, ([] : List ((Int × ByteArray × ByteArray) × Int)), o2.2.1, o2.2.2), none, 0, a9, c9, m10, hr, rfl, hm, st, r5, r15, (RepS.nil _ _), r9⟩ ?_)
    clear st hr
    rintro k3 _ w13 ⟨s3, a17, c17, a18, c18, m12, hL, rfl, hm, st, r5, r15, r18, r19⟩
    rcases k3 with _ | k3
    ·exact loopM_zero hL
    ·obtain ⟨qu3, hr, hSu3, hBu3⟩ := loopM_succ hL
     clear hL
     unfold testgatelaw18_records_L3 at hr
     refine W_sr (WO_seg 1 [(31, .bool (decide (s3.1 < (List.length y4 : Int))))] kr kr ?_)
     refine WO_et rfl (W_seq ?_)
     refine W_cond (decide (s3.1 < (List.length y4 : Int))) kr ?_ ?_
     ·intro hc
      rw [if_pos hc] at hr
      refine W_skip ?_
      refine X_then ?_
      refine W_seq ?_
      refine W_block ?_
      refine W_sr ?_
      replace ⟨x1, hx6, hr⟩ := bindS hr
      refine WO_one rfl (One_index (d := 32) (t := 23) (e := 29) (x := (.tmp 28)) (y := (.tmp 30)) (cPair (cInt .i64) (cPair cStr cStr)) kr rfl (ev (.slice a14 (List.length y4) c14)) (ev (.int .i64 s3.1)) kr r15 hx6 ?_)
      rintro b3 f1 cs1 ⟨_, _, rfl, rfl, ⟨_, _, rfl, rfl, rfl⟩⟩ hq1
      refine WO_one rfl (One_load_row (d := 33) (t := 29) (x := (.tmp 32)) (.agg #[.int .i64 x1.1, .string x1.2.1, .string x1.2.2]) kr rfl (ev (.pointer (some ⟨b3, f1, none⟩))) st hq1 kr ?_)
      refine WO_one rfl (One_alloc (d := 9) (e := 29) (.agg #[.int .i64 0, .string (⟨#[]⟩ : ByteArray), .string (⟨#[]⟩ : ByteArray)]) kr rfl kr st ?_)
      clear st
      intro b4 w14 st
      refine WO_one rfl (One_store (t := 29) (x := (.tmp 9)) (y := (.tmp 33)) (v := .agg #[.int .i64 x1.1, .string x1.2.1, .string x1.2.2]) (c' := #[.int .i64 x1.1, .string x1.2.1, .string x1.2.2]) kr (ev (.pointer (some ⟨b4, 0, none⟩))) (ev (.agg #[.int .i64 x1.1, .string x1.2.1, .string x1.2.2])) st kr kr ?_)
      clear st
      intro w15 st
      refine WO_et rfl (W_draw [(10, fun w' => Inv m12 w' ∧ Piece.holds m12 w' (.blk b4 (.cells #[.int .i64 x1.1, .string x1.2.1, .string x1.2.2] 29 (0, 0))) ∧ True), (9, fun w' => Inv m12 w' ∧ Piece.holds m12 w' (.blk b2 (.cells #[.string (⟨#[]⟩ : ByteArray), .string (⟨#[]⟩ : ByteArray), .int .i64 0, .int .i64 0, .int .i64 0, .int .i64 0, .int .i64 0, .int .i64 0, .bool false, .slice a17 (List.length s3.2.1) c17] 73 (0, 0))) ∧ True)] kr st ?_)
      clear st
      intro w16 _ st
      have hmS1 := m12.le_refl
      refine ⟨⟨.inr ⟨Inv.anti st.inv hmS1, Piece.holds_anti st.head hmS1, trivial⟩, ⟨.inr ⟨Inv.anti st.inv hmS1, Piece.holds_anti st.tail.head hmS1, trivial⟩, trivial⟩⟩, ?_⟩
      refine WA_pure 0 34 (.pointer (some ⟨b2, 9, none⟩)) kr rfl kr (.head _) (QP_block (QP_then (QP_then (QP_block (QP_then (QP_block (QP_then (QP_then (QP_block (QP_then QP_body)))))))))) ?_
      refine WA_load_own (t := 71) (x := (.tmp 34)) 1 35 (.slice a17 (List.length s3.2.1) c17) kr rfl kr (.tail _ (.head _)) (QP_block (QP_then (QP_then (QP_block (QP_then (QP_block (QP_then (QP_then (QP_block (QP_then QP_body)))))))))) (fun _ h => h.2.1) (ev (.pointer (some ⟨b2, 9, none⟩))) kr ?_
      refine WA_load_own (t := 29) (x := (.tmp 9)) 2 36 (.agg #[.int .i64 x1.1, .string x1.2.1, .string x1.2.2]) kr rfl kr (.head _) (QP_block (QP_then (QP_then (QP_block (QP_then (QP_block (QP_then (QP_then (QP_block (QP_then QP_body)))))))))) (fun _ h => h.2.1) (ev (.pointer (some ⟨b4, 0, none⟩))) kr ?_
      refine WA_pure 3 37 (.pointer (some ⟨bp0, 0, none⟩)) kr rfl kr (.head _) (QP_block (QP_then (QP_then (QP_block (QP_then (QP_block (QP_then (QP_then (QP_block (QP_then QP_body)))))))))) ?_
      have st := st.front2
      replace ⟨y5, hx7, hr⟩ := bindS hr
      refine WA_one 4 kr  (One_fn 38 7 #[.pointer (some ⟨bp0, 0, none⟩), .int .i64 3] kr rfl ?_)
      refine (testgatemake_Tape_Next_ok st r19 hx7).mono ?_
      clear st
      rintro _ w17 ⟨a19, c19, m13, rfl, hle7, st, r20⟩
      refine ⟨_, rfl, ?_⟩
      have hm := Mem.le_trans hm hle7
      have r5 := r5.mono hle7
      have r15 := r15.mono hle7
      have r18 := r18.mono hle7
      have r19 := r19.mono hle7
      have hmS1 := Mem.le_trans hmS1 hle7
      refine ⟨⟨.inr ⟨Inv.anti st.inv hmS1, Piece.holds_anti st.tail.head hmS1, trivial⟩, ⟨.inr ⟨Inv.anti st.inv hmS1, Piece.holds_anti st.tail.tail.head hmS1, trivial⟩, trivial⟩⟩, ?_⟩
      refine WA_pure 5 39 (.agg #[.int .i64 x1.1, .string x1.2.1, .string x1.2.2, .int .i64 y5.2]) kr rfl kr (.head _) (QP_block (QP_then (QP_then (QP_block (QP_then (QP_block (QP_then (QP_then (QP_block (QP_then QP_body)))))))))) ?_
      refine WA_one 6 kr  (One_buildSlice (d := 40) (t := 71) (e := 102) (len := 1) (parts := #[(0, (.tmp 39))]) (cPair (cPair (cInt .i64) (cPair cStr cStr)) (cInt .i64)) (xs := [((x1.1, x1.2.1, x1.2.2), y5.2)]) [.int .i64 x1.1, .string x1.2.1, .string x1.2.2, .int .i64 y5.2] kr rfl (fun _ => buildCells_run kr _) rfl rfl st ⟨[.int .i64 x1.1, .string x1.2.1, .string x1.2.2, .int .i64 y5.2], _, rfl, ⟨_, _, rfl, ⟨_, _, rfl, rfl, ⟨_, _, rfl, rfl, rfl⟩⟩, rfl⟩, rfl⟩ ?_)
      clear st
      intro b5 m14 w18 hle8 st r21
      have hm := Mem.le_trans hm hle8
      have r5 := r5.mono hle8
      have r15 := r15.mono hle8
      have r18 := r18.mono hle8
      have r20 := r20.mono hle8
      have hmS1 := Mem.le_trans hmS1 hle8
      refine ⟨⟨.inr ⟨Inv.anti st.inv hmS1, Piece.holds_anti st.tail.tail.head hmS1, trivial⟩, ⟨.inr ⟨Inv.anti st.inv hmS1, Piece.holds_anti st.tail.tail.tail.head hmS1, trivial⟩, trivial⟩⟩, ?_⟩
      have st := st.front6
      replace ⟨l2, hx8, hr⟩ := bindS hr
      refine WA_one 7 kr  (One_append (d := 41) (t := 71) (u := 71) (e := 102) (by_ := 48) (x := (.tmp 35)) (y := (.tmp 40)) (cPair (cPair (cInt .i64) (cPair cStr cStr)) (cInt .i64)) kr rfl (ev (.slice a17 (List.length s3.2.1) c17)) (ev (.slice (some ⟨b5, 0, none⟩) (List.length ([((x1.1, x1.2.1, x1.2.2), y5.2)])) 1)) st kr (.inl kr) r18 r21.src hx8 ?_)
      clear st
      intro a20 c20 m15 w19 hle9 st r22
      have hm := Mem.le_trans hm hle9
      have r5 := r5.mono hle9
      have r15 := r15.mono hle9
      have r18 := r18.mono hle9
      have r21 := r21.mono hle9
      have r20 := r20.mono hle9
      have hmS1 := Mem.le_trans hmS1 hle9
      refine ⟨⟨.inr ⟨Inv.anti st.inv hmS1, Piece.holds_anti st.tail.tail.tail.head hmS1, trivial⟩, ⟨.inr ⟨Inv.anti st.inv hmS1, Piece.holds_anti st.tail.tail.tail.tail.head hmS1, trivial⟩, trivial⟩⟩, ?_⟩
      refine WA_pure 8 42 (.pointer (some ⟨b2, 9, none⟩)) kr rfl kr (.head _) (QP_block (QP_then (QP_then (QP_block (QP_then (QP_block (QP_then (QP_then (QP_block (QP_then QP_body)))))))))) ?_
      have st := st.front4
      refine WA_one 9 kr  (One_store (t := 71) (x := (.tmp 42)) (y := (.tmp 41)) (v := .slice a20 (List.length l2) c20) (c' := #[.string (⟨#[]⟩ : ByteArray), .string (⟨#[]⟩ : ByteArray), .int .i64 0, .int .i64 0, .int .i64 0, .int .i64 0, .int .i64 0, .int .i64 0, .bool false, .slice a20 (List.length l2) c20]) kr (ev (.pointer (some ⟨b2, 9, none⟩))) (ev (.slice a20 (List.length l2) c20)) st kr kr ?_)
      clear st
      intro w20 st
      refine ⟨⟨.inr ⟨Inv.anti st.inv hmS1, Piece.holds_anti st.tail.tail.tail.tail.head hmS1, trivial⟩, ⟨.inl rfl, trivial⟩⟩, ?_⟩
      refine WA_done kr ?_
      have st := st.front2
      have st := st.tail
      refine X_block ?_
      refine X_then ?_
      refine W_region ?_
      refine WO_seg 2 [(30, .int .i64 (IntKind.wrap .i64 (s3.1 + 1)))] kr kr ?_
      refine WO_end rfl ?_
      obtain rfl := Option.some.inj hr
      have hL := hSu3 _ rfl
      have st := st.front3
      have st := st.tail
      have st := st.front1.front4.front4.front4.front4
      exact X_env _ kr (X_round k3 (Nat.lt_succ_self _) ⟨(IntKind.wrap .i64 (s3.1 + 1), l2, y5.1.1, y5.1.2), a20, c20, a19, c19, m15, hL, rfl, hm, st, r5, r15, r22, r20⟩)
     ·intro hc
      rw [if_neg (not_true hc)] at hr
      refine W_exit ?_
      refine X_then_exit ?_
      obtain rfl := Option.some.inj hr
      have ho := hBu3 _ rfl
      have st := st.front4.front4.front4.front4.front4
      refine X_then_exit ?_
      exact X_env _ kr (K4_u3 _ _ ⟨(s3.2.1, s3.2.2.1, s3.2.2.2), a17, c17, a18, c18, m12, ho, rfl, hm, st, r5, r18, r19⟩)
   intro K2_u2
   clear hrKu2
   have st := st.nilroom 29 3
   have st := st.front2.front2
   refine W_env _ kr (W_loop (fun k2 L' w' => ∃ (s2 : (List (Int × ByteArray × ByteArray)) × Int × List (Int) × Int) (a10 : Option Addr) (c10 : Nat) (a11 : Option Addr) (c11 : Nat) (m6 : Mem), loopM (testgatelaw18_records_L2 N) k2 s2 = some out2 ∧ L' = [(0, .pointer (some ⟨bp0, 0, none⟩)), (3, .slice a5 (List.length s1.1) c5), (4, .int .i64 s1.2.1), (5, .slice a10 (List.length s2.1) c10), (6, .int .i64 s2.2.1)] ∧ m.le m6 ∧ St m6 (.blk bp0 (.cells #[.slice a11 (List.length s2.2.2.1) c11, .int .i64 s2.2.2.2] 26 (0, 0)) :: .room a5 (List.length s1.1) c5 73 10 :: .room a10 (List.length s2.1) c10 29 3 :: own) w' ∧ RepS (cPair (cPair cStr cStr) (cPair (cInt .i64) (cPair (cInt .i64) (cPair (cInt .i64) (cPair (cPair (cInt .i64) (cPair (cInt .i64) (cInt .i64))) (cPair cBool (cSl (cPair (cPair (cInt .i64) (cPair cStr cStr)) (cInt .i64))))))))) m6 a5 c5 s1.1 ∧ RepS (cPair (cInt .i64) (cPair cStr cStr)) m6 a10 c10 s2.1 ∧ RepS (cInt .i64) m6 a11 c11 s2.2.2.1) N ⟨(([] : List (Int × ByteArray × ByteArray)), y2.2, y2.1.1, y2.1.2), none, 0, a7, c7, m4, hr, rfl, hm, st, r5, (RepS.nil _ _), r7⟩ ?_)
   clear st hr
   rintro k2 _ w6 ⟨s2, a10, c10, a11, c11, m6, hL, rfl, hm, st, r5, r10, r11⟩
   rcases k2 with _ | k2
   ·exact loopM_zero hL
   ·obtain ⟨qu2, hr, hSu2, hBu2⟩ := loopM_succ hL
    clear hL
    unfold testgatelaw18_records_L2 at hr
    refine W_seq ?_
    refine W_sr (WO_seg 2 [(19, .bool (decide (s2.2.1 > 0)))] kr kr ?_)
    refine WO_et rfl (W_cond (decide (s2.2.1 > 0)) kr ?_ ?_)
    ·intro hc
     rw [if_pos hc] at hr
     refine W_skip ?_
     refine X_then ?_
     refine W_seq ?_
     refine W_block ?_
     refine W_region ?_
     refine WO_seg 2 [(22, .slice a10 (List.length s2.1) c10), (23, .pointer (some ⟨bp0, 0, none⟩))] kr kr ?_
     replace ⟨y3, hx3, hr⟩ := bindS hr
     refine WO_one rfl (One_fn 24 8 #[.pointer (some ⟨bp0, 0, none⟩)] kr rfl ?_)
     refine (testgatemake_Key_ok st r11 hx3).mono ?_
     clear st
     rintro _ w7 ⟨a12, c12, m7, rfl, hle3, st, r12⟩
     refine ⟨_, rfl, ?_⟩
     have hm := Mem.le_trans hm hle3
     have r5 := r5.mono hle3
     have r10 := r10.mono hle3
     have r11 := r11.mono hle3
     refine WO_one rfl (One_buildSlice (d := 25) (t := 23) (e := 29) (len := 1) (parts := #[(0, (.tmp 24))]) (cPair (cInt .i64) (cPair cStr cStr)) (xs := [(y3.2.1, y3.2.2.1, y3.2.2.2)]) [.int .i64 y3.2.1, .string y3.2.2.1, .string y3.2.2.2] kr rfl (fun _ => buildCells_run kr _) rfl rfl st ⟨[.int .i64 y3.2.1, .string y3.2.2.1, .string y3.2.2.2], _, rfl, ⟨_, _, rfl, rfl, ⟨_, _, rfl, rfl, rfl⟩⟩, rfl⟩ ?_)
     clear st
     intro b1 m8 w8 hle4 st r13
     have hm := Mem.le_trans hm hle4
     have r5 := r5.mono hle4
     have r10 := r10.mono hle4
     have r12 := r12.mono hle4
     have st := st.front3
     replace ⟨l1, hx4, hr⟩ := bindS hr
     refine WO_one rfl (One_append (d := 26) (t := 23) (u := 23) (e := 29) (by_ := 40) (x := (.tmp 22)) (y := (.tmp 25)) (cPair (cInt .i64) (cPair cStr cStr)) kr rfl (ev (.slice a10 (List.length s2.1) c10)) (ev (.slice (some ⟨b1, 0, none⟩) (List.length ([(y3.2.1, y3.2.2.1, y3.2.2.2)])) 1)) st kr (.inl kr) r10 r13.src hx4 ?_)
     clear st
     intro a13 c13 m9 w9 hle5 st r14
     have hm := Mem.le_trans hm hle5
     have r5 := r5.mono hle5
     have r10 := r10.mono hle5
     have r13 := r13.mono hle5
     have r12 := r12.mono hle5
     refine WO_seg 1 [(5, .slice a13 (List.length l1) c13)] kr kr ?_
     refine WO_end rfl ?_
     have st := st.front1
     have st := st.tail
     refine X_block ?_
     refine X_then ?_
     refine W_region ?_
     refine WO_seg 3 [(6, .int .i64 (IntKind.wrap .i64 (s2.2.1 - 1)))] kr kr ?_
     refine WO_end rfl ?_
     obtain rfl := Option.some.inj hr
     have hL := hSu2 _ rfl
     have st := st.front2.front2
     exact X_env _ kr (X_round k2 (Nat.lt_succ_self _) ⟨(l1, IntKind.wrap .i64 (s2.2.1 - 1), y3.1.1, y3.1.2), a13, c13, a12, c12, m9, hL, rfl, hm, st, r5, r14, r12⟩)
    ·intro hc
     rw [if_neg (not_true hc)] at hr
     refine W_exit ?_
     refine X_then_exit ?_
     obtain rfl := Option.some.inj hr
     have ho := hBu2 _ rfl
     have st := st.front2.front2.front2
     refine X_then_exit ?_
     exact X_env _ kr (K2_u2 _ _ ⟨(s2.1, s2.2.2.1, s2.2.2.2), a10, c10, a11, c11, m6, ho, rfl, hm, st, r5, r10, r11⟩)
  ·intro hc
   rw [if_neg (not_true hc)] at hr
   refine W_exit ?_
   refine X_then_exit ?_
   obtain rfl := Option.some.inj hr
   have ho := hBu1 _ rfl
   have st := st.front1.front1
   refine X_then_exit ?_
   exact X_env _ kr (K0_u1 _ _ ⟨(s1.1, s1.2.2.1, s1.2.2.2), a5, c5, a6, c6, m3, ho, rfl, hm, st, r5, r6⟩)
def lexer_kinds_L2 (N : Nat) (kv1 : Int × ByteArray) (l1 : List (UInt8)) (s2 : Int × (Option (List (Int × Int)))) : Option ((Int × (Option (List (Int × Int)))) ⊕ (((Option (List (Int × Int)))))) :=
 if (decide (s2.1 < (List.length l1 : Int))) = true then ((idx l1 s2.1).bind fun x1 => (msetQ s2.2 (x1.toNat : Int) kv1.1).bind fun mp9 => some (.inl (IntKind.wrap .i64 (s2.1 + 1), mp9))) else (some (.inr s2.2))
def lexer_kinds_L1 (N : Nat) (z1 : Option (Int × ByteArray)) (s1 : (Option (List (Int × Int)))) : Option (((Option (List (Int × Int)))) ⊕ (((Option (List (Int × Int)))))) :=
 (match z1 with | none => some (.inr s1) | some kv1 => (bytesOf kv1.2).bind fun l1 => (loopM (lexer_kinds_L2 N kv1 l1) N (0, s1)).bind fun o2 => some (.inl o2))
def lexer_kinds (N : Nat) : Option (Option (List (Int × Int))) :=
 (msetQ (some [] : Option (List (Int × ByteArray))) 1 (⟨#[97, 98, 99, 100, 101, 102, 103, 104, 105, 106, 107, 108, 109, 110, 111, 112, 113, 114, 115, 116, 117, 118, 119, 120, 121, 122]⟩ : ByteArray)).bind fun mp1 => (msetQ mp1 2 (⟨#[48, 49, 50, 51, 52, 53, 54, 55, 56, 57]⟩ : ByteArray)).bind fun mp2 => (msetQ mp2 3 (⟨#[95]⟩ : ByteArray)).bind fun mp3 => (msetQ mp3 4 (⟨#[46]⟩ : ByteArray)).bind fun mp4 => (msetQ mp4 5 (⟨#[9, 10, 13, 32]⟩ : ByteArray)).bind fun mp5 => (msetQ mp5 6 (⟨#[35]⟩ : ByteArray)).bind fun mp6 => (msetQ mp6 7 (⟨#[34]⟩ : ByteArray)).bind fun mp7 => (msetQ mp7 8 (⟨#[59, 44, 40, 41, 43, 45, 42, 47, 37, 60, 61]⟩ : ByteArray)).bind fun mp8 => (mrange (lexer_kinds_L1 N) (Option.getD mp8 []) (some [] : Option (List (Int × Int)))).bind fun o1 => some o1
set_option maxHeartbeats 4000000 in
set_option maxRecDepth 100000 in
theorem lexer_kinds_ok {N : Nat} {m : Mem} {own : List Piece} {w : World} {r : Option (List (Int × Int))} (st : St m (own) w) (hr : lexer_kinds N = some r) : Calls Tryd.prog 80 #[] w fun e w' => ∃ (rq1 : Option Nat) (re1 : Array MapEntry) (rk1 : Nat) (m' : Mem), e = .returned (.map rq1) ∧ m.le m' ∧ St m' (mpiece rq1 re1 rk1 :: own) w' ∧ MapQ (fun n : Int => Value.int .u8 n) (cInt .i64) false m' rq1 re1 rk1 r := by
 unfold lexer_kinds at hr
 have hm := m.le_refl
 refine W_calls Tryd.func80 rfl Tryd.ntmps80 [] kr rfl ?_
 refine W_sr (WO_seg 1 [] kr kr ?_)
 refine WO_et rfl (W_sr ?_)
 refine WO_one rfl (One_makeMap (d := 6) (t := 127) kr rfl st ?_)
 clear st
 intro b1 w1 st
 refine WO_seg 1 [(1, .map (some b1))] kr kr ?_
 refine WO_et rfl (W_seq ?_)
 refine W_sr (WO_one rfl (One_makeMap (d := 7) (t := 169) kr rfl st ?_))
 clear st
 intro b2 w2 st
 replace ⟨mp1, hx1, hr⟩ := bindS hr
 refine WO_one rfl (One_insert (ek := (fun n : Int => Value.int .i64 n)) (c := cStr) (agg := false) (k := 1) (yv := (⟨#[97, 98, 99, 100, 101, 102, 103, 104, 105, 106, 107, 108, 109, 110, 111, 112, 113, 114, 115, 116, 117, 118, 119, 120, 121, 122]⟩ : ByteArray)) (cs := [.string (⟨#[97, 98, 99, 100, 101, 102, 103, 104, 105, 106, 107, 108, 109, 110, 111, 112, 113, 114, 115, 116, 117, 118, 119, 120, 121, 122]⟩ : ByteArray)]) (z := (.string (⟨#[]⟩ : ByteArray))) (v := (.string (⟨#[97, 98, 99, 100, 101, 102, 103, 104, 105, 106, 107, 108, 109, 110, 111, 112, 113, 114, 115, 116, 117, 118, 119, 120, 121, 122]⟩ : ByteArray))) (kt := 3) (et := 9) (t := 169) (x := (.tmp 7)) (y := (.const (.int .i64 1))) (u := (.const (.string (⟨#[97, 98, 99, 100, 101, 102, 103, 104, 105, 106, 107, 108, 109, 110, 111, 112, 113, 114, 115, 116, 117, 118, 119, 120, 121, 122]⟩ : ByteArray)))) kr (ev (.map (some b2))) (ev (.int .i64 1)) (ev (.string (⟨#[97, 98, 99, 100, 101, 102, 103, 104, 105, 106, 107, 108, 109, 110, 111, 112, 113, 114, 115, 116, 117, 118, 119, 120, 121, 122]⟩ : ByteArray))) kr (keyInt kr) st (MapQ.new (fun n : Int => Value.int .i64 n) cStr false _ _) rfl rfl hx1 ?_)
 clear st
 intro es1 ck1 w3 st r1
 replace ⟨mp2, hx2, hr⟩ := bindS hr
 refine WO_one rfl (One_insert (ek := (fun n : Int => Value.int .i64 n)) (c := cStr) (agg := false) (k := 2) (yv := (⟨#[48, 49, 50, 51, 52, 53, 54, 55, 56, 57]⟩ : ByteArray)) (cs := [.string (⟨#[48, 49, 50, 51, 52, 53, 54, 55, 56, 57]⟩ : ByteArray)]) (z := (.string (⟨#[]⟩ : ByteArray))) (v := (.string (⟨#[48, 49, 50, 51, 52, 53, 54, 55, 56, 57]⟩ : ByteArray))) (kt := 3) (et := 9) (t := 169) (x := (.tmp 7)) (y := (.const (.int .i64 2))) (u := (.const (.string (⟨#[48, 49, 50, 51, 52, 53, 54, 55, 56, 57]⟩ : ByteArray)))) kr (ev (.map (some b2))) (ev (.int .i64 2)) (ev (.string (⟨#[48, 49, 50, 51, 52, 53, 54, 55, 56, 57]⟩ : ByteArray))) kr (keyInt kr) st r1 rfl rfl hx2 ?_)
 clear st
 intro es2 ck2 w4 st r2
 replace ⟨mp3, hx3, hr⟩ := bindS hr
 refine WO_one rfl (One_insert (ek := (fun n : Int => Value.int .i64 n)) (c := cStr) (agg := false) (k := 3) (yv := (⟨#[95]⟩ : ByteArray)) (cs := [.string (⟨#[95]⟩ : ByteArray)]) (z := (.string (⟨#[]⟩ : ByteArray))) (v := (.string (⟨#[95]⟩ : ByteArray))) (kt := 3) (et := 9) (t := 169) (x := (.tmp 7)) (y := (.const (.int .i64 3))) (u := (.const (.string (⟨#[95]⟩ : ByteArray)))) kr (ev (.map (some b2))) (ev (.int .i64 3)) (ev (.string (⟨#[95]⟩ : ByteArray))) kr (keyInt kr) st r2 rfl rfl hx3 ?_)
 clear st
 intro es3 ck3 w5 st r3
 replace ⟨mp4, hx4, hr⟩ := bindS hr
 refine WO_one rfl (One_insert (ek := (fun n : Int => Value.int .i64 n)) (c := cStr) (agg := false) (k := 4) (yv := (⟨#[46]⟩ : ByteArray)) (cs := [.string (⟨#[46]⟩ : ByteArray)]) (z := (.string (⟨#[]⟩ : ByteArray))) (v := (.string (⟨#[46]⟩ : ByteArray))) (kt := 3) (et := 9) (t := 169) (x := (.tmp 7)) (y := (.const (.int .i64 4))) (u := (.const (.string (⟨#[46]⟩ : ByteArray)))) kr (ev (.map (some b2))) (ev (.int .i64 4)) (ev (.string (⟨#[46]⟩ : ByteArray))) kr (keyInt kr) st r3 rfl rfl hx4 ?_)
 clear st
 intro es4 ck4 w6 st r4
 replace ⟨mp5, hx5, hr⟩ := bindS hr
 refine WO_one rfl (One_insert (ek := (fun n : Int => Value.int .i64 n)) (c := cStr) (agg := false) (k := 5) (yv := (⟨#[9, 10, 13, 32]⟩ : ByteArray)) (cs := [.string (⟨#[9, 10, 13, 32]⟩ : ByteArray)]) (z := (.string (⟨#[]⟩ : ByteArray))) (v := (.string (⟨#[9, 10, 13, 32]⟩ : ByteArray))) (kt := 3) (et := 9) (t := 169) (x := (.tmp 7)) (y := (.const (.int .i64 5))) (u := (.const (.string (⟨#[9, 10, 13, 32]⟩ : ByteArray)))) kr (ev (.map (some b2))) (ev (.int .i64 5)) (ev (.string (⟨#[9, 10, 13, 32]⟩ : ByteArray))) kr (keyInt kr) st r4 rfl rfl hx5 ?_)
 clear st
 intro es5 ck5 w7 st r5
 replace ⟨mp6, hx6, hr⟩ := bindS hr
 refine WO_one rfl (One_insert (ek := (fun n : Int => Value.int .i64 n)) (c := cStr) (agg := false) (k := 6) (yv := (⟨#[35]⟩ : ByteArray)) (cs := [.string (⟨#[35]⟩ : ByteArray)]) (z := (.string (⟨#[]⟩ : ByteArray))) (v := (.string (⟨#[35]⟩ : ByteArray))) (kt := 3) (et := 9) (t := 169) (x := (.tmp 7)) (y := (.const (.int .i64 6))) (u := (.const (.string (⟨#[35]⟩ : ByteArray)))) kr (ev (.map (some b2))) (ev (.int .i64 6)) (ev (.string (⟨#[35]⟩ : ByteArray))) kr (keyInt kr) st r5 rfl rfl hx6 ?_)
 clear st
 intro es6 ck6 w8 st r6
 replace ⟨mp7, hx7, hr⟩ := bindS hr
 refine WO_one rfl (One_insert (ek := (fun n : Int => Value.int .i64 n)) (c := cStr) (agg := false) (k := 7) (yv := (⟨#[34]⟩ : ByteArray)) (cs := [.string (⟨#[34]⟩ : ByteArray)]) (z := (.string (⟨#[]⟩ : ByteArray))) (v := (.string (⟨#[34]⟩ : ByteArray))) (kt := 3) (et := 9) (t := 169) (x := (.tmp 7)) (y := (.const (.int .i64 7))) (u := (.const (.string (⟨#[34]⟩ : ByteArray)))) kr (ev (.map (some b2))) (ev (.int .i64 7)) (ev (.string (⟨#[34]⟩ : ByteArray))) kr (keyInt kr) st r6 rfl rfl hx7 ?_)
 clear st
 intro es7 ck7 w9 st r7
 replace ⟨mp8, hx8, hr⟩ := bindS hr
 refine WO_one rfl (One_insert (ek := (fun n : Int => Value.int .i64 n)) (c := cStr) (agg := false) (k := 8) (yv := (⟨#[59, 44, 40, 41, 43, 45, 42, 47, 37, 60, 61]⟩ : ByteArray)) (cs := [.string (⟨#[59, 44, 40, 41, 43, 45, 42, 47, 37, 60, 61]⟩ : ByteArray)]) (z := (.string (⟨#[]⟩ : ByteArray))) (v := (.string (⟨#[59, 44, 40, 41, 43, 45, 42, 47, 37, 60, 61]⟩ : ByteArray))) (kt := 3) (et := 9) (t := 169) (x := (.tmp 7)) (y := (.const (.int .i64 8))) (u := (.const (.string (⟨#[59, 44, 40, 41, 43, 45, 42, 47, 37, 60, 61]⟩ : ByteArray)))) kr (ev (.map (some b2))) (ev (.int .i64 8)) (ev (.string (⟨#[59, 44, 40, 41, 43, 45, 42, 47, 37, 60, 61]⟩ : ByteArray))) kr (keyInt kr) st r7 rfl rfl hx8 ?_)
 clear st
 intro es8 ck8 w10 st r8
 refine WO_seg 1 [(8, .map (some b2))] kr kr ?_
 refine WO_one rfl (One_range (ek := (fun n : Int => Value.int .i64 n)) (c := cStr) (agg := false) (d := 9) (t := 169) (kt := 3) (et := 9) (x := (.tmp 8)) kr rfl (ev (.map (some b2))) kr st r8 ?_)
 clear st
 intro b3 w11 st hi1
 refine WO_et rfl (W_block ?_)
 replace ⟨out1, hr, hrKu1⟩ := bindS hr
 refine W_cut (.exit 0) (fun L' w' => ∃ (o1 : (Option (List (Int × Int)))) (es9 : Array MapEntry) (ck9 : Nat) (sn1 : Array Nat) (rem1 : List (Int × ByteArray)) (m1 : Mem), o1 = out1 ∧ L' = [(1, .map (some b1))] ∧ m.le m1 ∧ St m1 (mpiece (some b2) es8 ck8 :: mpiece (some b1) es9 ck9 :: itpiece b3 (some b2) ck8 sn1 :: own) w' ∧ MapQ (fun n : Int => Value.int .i64 n) cStr false m1 (some b2) es8 ck8 mp8 ∧ MapQ (fun n : Int => Value.int .u8 n) (cInt .i64) false m1 (some b1) es9 ck9 o1 ∧ ItR (fun n : Int => Value.int .i64 n) cStr false m1 es8 sn1 rem1) ?_ ?_
 ·clear hr st
  rintro _ w12 ⟨o1, es9, ck9, sn1, rem1, m1, rfl, rfl, hm, st, r8, r9, hi2⟩
  have hr := hrKu1
  clear hrKu1
  refine X_block_eq ?_
  refine X_then ?_
  refine W_sr (WO_seg 2 [(0, .map (some b1))] kr kr ?_)
  refine WO_end rfl ?_
  have st := st.front2
  have st := st.tail
  refine X_then ?_
  refine W_ret ?_
  obtain rfl := Option.some.inj hr
  refine X_ret [.tmp 0] [.map (some b1)] rfl (ResAll.cons (ResAt.tmp kr) ResAll.nil) ?_
  have st := st.tail
  exact ⟨(some b1), es9, ck9, m1, rfl, hm, st, r9⟩
 intro K0_u1
 clear hrKu1
 have st := st.front2.front2
 refine W_env _ kr (W_loop (fun k1 L' w' => ∃ (s1 : (Option (List (Int × Int)))) (es10 : Array MapEntry) (ck10 : Nat) (sn2 : Array Nat) (rem2 : List (Int × ByteArray)) (m2 : Mem), LoopE (lexer_kinds_L1 N) rem2 s1 out1 k1 ∧ L' = [(1, .map (some b1)), (9, .pointer (some ⟨b3, 0, none⟩))] ∧ m.le m2 ∧ St m2 (mpiece (some b2) es8 ck8 :: mpiece (some b1) es10 ck10 :: itpiece b3 (some b2) ck8 sn2 :: own) w' ∧ MapQ (fun n : Int => Value.int .i64 n) cStr false m2 (some b2) es8 ck8 mp8 ∧ MapQ (fun n : Int => Value.int .u8 n) (cInt .i64) false m2 (some b1) es10 ck10 s1 ∧ ItR (fun n : Int => Value.int .i64 n) cStr false m2 es8 sn2 rem2) (List.length (Option.getD mp8 []) + 1) ⟨(some [] : Option (List (Int × Int))), #[], 0, #[], (Option.getD mp8 []), m, LoopE.start hr, rfl, hm, st, r8, (MapQ.new (fun n : Int => Value.int .u8 n) (cInt .i64) false _ _), hi1⟩ ?_)
 clear st hr
 rintro k1 _ w13 ⟨s1, es10, ck10, sn2, rem2, m2, hL, rfl, hm, st, r8, r10, hi3⟩
 rcases k1 with _ | k1
 ·exact LoopE.zero hL
 ·refine W_sr ?_
  have st := st.front2
  refine WO_one rfl (One_next (ek := (fun n : Int => Value.int .i64 n)) (c := cStr) (agg := false) (d := 10) (x := (.tmp 9)) kr rfl (ev (.pointer (some ⟨b3, 0, none⟩))) st r8 hi3 ?_ ?_)
  ·intro hx9 w14 st
   obtain ⟨qu1, hr, hSu1, hBu1⟩ := hL.nil hx9
   clear hL
   unfold lexer_kinds_L1 at hr
   dsimp only at hr
   refine WO_seg 1 [(11, .bool false)] kr kr ?_
   refine WO_et rfl (W_seq ?_)
   refine W_cond false kr (fun h => Bool.noConfusion h) ?_
   intro _
   refine W_exit ?_
   refine X_then_exit ?_
   obtain rfl := Option.some.inj hr
   have ho := hBu1 _ rfl
   have st := st.front2.front2
   refine X_then_exit ?_
   exact X_env _ kr (K0_u1 _ _ ⟨s1, es10, ck10, sn2, rem2, m2, ho, rfl, hm, st, r8, r10, hi3⟩)
  ·rintro kv1 rem3 sn3 cs1 w15 hx10 rfl st hi4 he1
   obtain ⟨qu1, hr, hSu1, hBu1⟩ := hL.cons hx10
   clear hL
   unfold lexer_kinds_L1 at hr
   dsimp only at hr
   refine WO_seg 1 [(11, .bool true)] kr kr ?_
   refine WO_et rfl (W_seq ?_)
   refine W_cond true kr ?_ (fun h => Bool.noConfusion h)
   intro _
   refine W_skip ?_
   refine X_then ?_
   refine W_block ?_
   refine W_sr ?_
   have st := st.front1.front1
   refine WO_one rfl (One_entry (ek := (fun n : Int => Value.int .i64 n)) (c := cStr) (agg := false) (d := 12) (x := (.tmp 9)) (K := .int .i64 kv1.1) (V := .string kv1.2) kr rfl (ev (.pointer (some ⟨b3, 0, none⟩))) st r8 he1 ?_)
   refine WO_seg 4 [(2, .int .i64 kv1.1), (3, .string kv1.2)] kr kr ?_
   refine WO_et rfl (W_sr ?_)
   refine WO_seg 1 [(15, .string kv1.2)] kr kr ?_
   replace ⟨l1, hx11, hr⟩ := bindS hr
   refine WO_one rfl (One_strBytes (d := 16) (t1 := 9) (t2 := 152) (e := 5) (x := (.tmp 15)) kr rfl (ev (.string kv1.2)) kr kr st hx11 ?_)
   clear st
   intro b4 c1 m3 w16 hle1 st r11
   have hm := Mem.le_trans hm hle1
   have hi4 := hi4.mono hle1
   have r8 := r8.mono hle1
   have r10 := r10.mono hle1
   refine WO_seg 2 [(17, .int .i64 (List.length l1 : Int)), (18, .int .i64 0)] kr kr ?_
   refine WO_et rfl (W_block ?_)
   replace ⟨out2, hr, hrKu2⟩ := bindS hr
   refine W_cut (.exit 2) (fun L' w' => ∃ (o2 : (Option (List (Int × Int)))) (es11 : Array MapEntry) (ck11 : Nat) (m4 : Mem), o2 = out2 ∧ L' = [(1, .map (some b1)), (9, .pointer (some ⟨b3, 0, none⟩))] ∧ m.le m4 ∧ St m4 (mpiece (some b2) es8 ck8 :: mpiece (some b1) es11 ck11 :: itpiece b3 (some b2) ck8 sn3 :: own) w' ∧ MapQ (fun n : Int => Value.int .i64 n) cStr false m4 (some b2) es8 ck8 mp8 ∧ MapQ (fun n : Int => Value.int .u8 n) (cInt .i64) false m4 (some b1) es11 ck11 o2 ∧ ItR (fun n : Int => Value.int .i64 n) cStr false m4 es8 sn3 rem3) ?_ ?_
   ·clear hr st
    rintro _ w17 ⟨o2, es11, ck11, m4, rfl, rfl, hm, st, r8, r12, hi4⟩
    have hr := hrKu2
    clear hrKu2
    refine X_block_eq ?_
    refine X_block ?_
    obtain rfl := Option.some.inj hr
    have hL := hSu1 _ rfl
    have st := st.front2.front2.front2
    exact X_env _ kr (X_round k1 (Nat.lt_succ_self _) ⟨o2, es11, ck11, sn3, rem3, m4, hL, rfl, hm, st, r8, r12, hi4⟩)
   intro K2_u2
   clear hrKu2
   have st := st.front2.front2
   refine W_env _ kr (W_loop (fun k2 L' w' => ∃ (s2 : Int × (Option (List (Int × Int)))) (es12 : Array MapEntry) (ck12 : Nat) (m5 : Mem), loopM (lexer_kinds_L2 N kv1 l1) k2 s2 = some out2 ∧ L' = [(1, .map (some b1)), (2, .int .i64 kv1.1), (9, .pointer (some ⟨b3, 0, none⟩)), (16, .slice (some ⟨b4, 0, none⟩) (List.length l1) c1), (17, .int .i64 (List.length l1 : Int)), (18, .int .i64 s2.1)] ∧ m.le m5 ∧ St m5 (mpiece (some b2) es8 ck8 :: mpiece (some b1) es12 ck12 :: itpiece b3 (some b2) ck8 sn3 :: own) w' ∧ RepS cU8 m5 (some ⟨b4, 0, none⟩) c1 l1 ∧ MapQ (fun n : Int => Value.int .i64 n) cStr false m5 (some b2) es8 ck8 mp8 ∧ MapQ (fun n : Int => Value.int .u8 n) (cInt .i64) false m5 (some b1) es12 ck12 s2.2 ∧ ItR (fun n : Int => Value.int .i64 n) cStr false m5 es8 sn3 rem3) N ⟨(0, s1), es10, ck10, m3, hr, rfl, hm, st, r11, r8, r10, hi4⟩ ?_)
   clear st hr
   rintro k2 _ w18 ⟨s2, es12, ck12, m5, hL, rfl, hm, st, r11, r8, r13, hi4⟩
   rcases k2 with _ | k2
   ·exact loopM_zero hL
   ·obtain ⟨qu2, hr, hSu2, hBu2⟩ := loopM_succ hL
    clear hL
    unfold lexer_kinds_L2 at hr
    refine W_sr (WO_seg 1 [(19, .bool (decide (s2.1 < (List.length l1 : Int))))] kr kr ?_)
    refine WO_et rfl (W_seq ?_)
    refine W_cond (decide (s2.1 < (List.length l1 : Int))) kr ?_ ?_
    ·intro hc
     rw [if_pos hc] at hr
     refine W_skip ?_
     refine X_then ?_
     refine W_seq ?_
     refine W_block ?_
     refine W_sr ?_
     replace ⟨x1, hx12, hr⟩ := bindS hr
     refine WO_one rfl (One_index (d := 20) (t := 152) (e := 5) (x := (.tmp 16)) (y := (.tmp 18)) cU8 kr rfl (ev (.slice (some ⟨b4, 0, none⟩) (List.length l1) c1)) (ev (.int .i64 s2.1)) kr r11 hx12 ?_)
     rintro b5 f1 cs2 rfl hq1
     refine WO_one rfl (One_load_row (d := 21) (t := 5) (x := (.tmp 20)) (.int .u8 (x1.toNat : Int)) kr rfl (ev (.pointer (some ⟨b5, f1, none⟩))) st hq1 kr ?_)
     refine WO_seg 1 [(5, .int .u8 (x1.toNat : Int))] kr kr ?_
     refine WO_et rfl (W_region ?_)
     refine WO_seg 3 [(22, .map (some b1)), (23, .int .u8 (x1.toNat : Int)), (24, .int .i64 kv1.1)] kr kr ?_
     have st := st.front1
     replace ⟨mp9, hx13, hr⟩ := bindS hr
     refine WO_one rfl (One_mapUpdate (ek := (fun n : Int => Value.int .u8 n)) (c := (cInt .i64)) (agg := false) (k := (x1.toNat : Int)) (yv := kv1.1) (cs := [.int .i64 kv1.1]) (z := (.int .i64 0)) (v := (.int .i64 kv1.1)) (kt := 5) (et := 3) (t := 127) (x := (.tmp 22)) (y := (.tmp 23)) (u := (.tmp 24)) kr (ev (.map (some b1))) (ev (.int .u8 (x1.toNat : Int))) (ev (.int .i64 kv1.1)) kr (keyInt kr) st r13 rfl rfl hx13 ?_)
     clear st
     intro es13 ck13 w19 st r14
     refine WO_end rfl ?_
     refine X_block ?_
     refine X_then ?_
     refine W_region ?_
     refine WO_seg 2 [(18, .int .i64 (IntKind.wrap .i64 (s2.1 + 1)))] kr kr ?_
     refine WO_end rfl ?_
     obtain rfl := Option.some.inj hr
     have hL := hSu2 _ rfl
     have st := st.front2.front1.front2
     exact X_env _ kr (X_round k2 (Nat.lt_succ_self _) ⟨(IntKind.wrap .i64 (s2.1 + 1), mp9), es13, ck13, m5, hL, rfl, hm, st, r11, r8, r14, hi4⟩)
    ·intro hc
     rw [if_neg (not_true hc)] at hr
     refine W_exit ?_
     refine X_then_exit ?_
     obtain rfl := Option.some.inj hr
     have ho := hBu2 _ rfl
     have st := st.front2.front2.front2
     refine X_then_exit ?_
     exact X_env _ kr (K2_u2 _ _ ⟨s2.2, es12, ck12, m5, ho, rfl, hm, st, r8, r13, hi4⟩)
def lexer_span_L2 (N : Nat) (p0 : ByteArray) (p2 : Option (List (Int × Int))) (p3 : List Int) (s1 : Int) (s2 : Bool × Int) : Option ((Bool × Int) ⊕ ((Bool))) :=
 if (decide (s2.2 < (List.length p3 : Int))) = true then ((idx p3 s2.2).bind fun x1 => (if s2.1 = true then (some true) else ((idxB p0 s1).bind fun x2 => some (((mgetQ p2 (x2.toNat : Int)).getD 0) == x1)) : Option (Bool)).bind fun o3 => some (.inl (o3, IntKind.wrap .i64 (s2.2 + 1)))) else (some (.inr s2.1))
def lexer_span_L1 (N : Nat) (p0 : ByteArray) (p2 : Option (List (Int × Int))) (p3 : List Int) (s1 : Int) : Option ((Int) ⊕ ((Int))) :=
 if (decide (s1 < (ByteArray.size p0 : Int))) = true then ((loopM (lexer_span_L2 N p0 p2 p3 s1) N (false, 0)).bind fun o2 => if (!o2) = true then (some (.inr s1)) else (some (.inl (IntKind.wrap .i64 (s1 + 1))))) else (some (.inr s1))
def lexer_span (N : Nat) (p0 : ByteArray) (p1 : Int) (p2 : Option (List (Int × Int))) (p3 : List Int) : Option (Int) :=
 (loopM (lexer_span_L1 N p0 p2 p3) N p1).bind fun o1 => some o1
set_option maxHeartbeats 4000000 in
set_option maxRecDepth 100000 in
theorem lexer_span_ok {N : Nat} {m : Mem} {own : List Piece} {w : World} {p0 : ByteArray} {p1 : Int} {p2 : Option (List (Int × Int))} {p3 : List Int} {q1 : Option Nat} {es1 : Array MapEntry} {ck1 : Nat} {a1 : Option Addr} {c1 : Nat} {r : Int} (st : St m (mpiece q1 es1 ck1 :: own) w) (r1 : MapQ (fun n : Int => Value.int .u8 n) (cInt .i64) false m q1 es1 ck1 p2) (r2 : RepS (cInt .i64) m a1 c1 p3) (hr : lexer_span N p0 p1 p2 p3 = some r) : Calls Tryd.prog 81 #[.string p0, .int .i64 p1, .map q1, .slice a1 (List.length p3) c1] w fun e w' => ∃ (m' : Mem), e = .returned (.int .i64 r) ∧ m.le m' ∧ St m' (mpiece q1 es1 ck1 :: own) w' := by
 unfold lexer_span at hr
 have hm := m.le_refl
 refine W_calls Tryd.func81 rfl Tryd.ntmps81 [(0, .string p0), (1, .int .i64 p1), (2, .map q1), (3, .slice a1 (List.length p3) c1)] kr rfl ?_
 refine W_sr (WO_seg 1 [] kr kr ?_)
 refine WO_et rfl (W_seq ?_)
 refine W_block ?_
 replace ⟨out1, hr, hrKu1⟩ := bindS hr
 refine W_cut (.exit 0) (fun L' w' => ∃ (o1 : Int) (m1 : Mem), o1 = out1 ∧ L' = [(1, .int .i64 o1)] ∧ m.le m1 ∧ St m1 (mpiece q1 es1 ck1 :: own) w' ∧ MapQ (fun n : Int => Value.int .u8 n) (cInt .i64) false m1 q1 es1 ck1 p2) ?_ ?_
 ·clear hr st
  rintro _ w1 ⟨o1, m1, rfl, rfl, hm, st, r1⟩
  have hr := hrKu1
  clear hrKu1
  refine X_block_eq ?_
  refine X_then ?_
  refine W_sr (WO_seg 2 [(8, .int .i64 o1)] kr kr ?_)
  refine WO_et rfl (W_ret ?_)
  obtain rfl := Option.some.inj hr
  refine X_ret [.tmp 8] [.int .i64 o1] rfl (ResAll.cons (ResAt.tmp kr) ResAll.nil) ?_
  exact ⟨m1, rfl, hm, st⟩
 intro K0_u1
 clear hrKu1
 refine W_env _ kr (W_loop (fun k1 L' w' => ∃ (s1 : Int) (m2 : Mem), loopM (lexer_span_L1 N p0 p2 p3) k1 s1 = some out1 ∧ L' = [(0, .string p0), (1, .int .i64 s1), (2, .map q1), (3, .slice a1 (List.length p3) c1)] ∧ m.le m2 ∧ St m2 (mpiece q1 es1 ck1 :: own) w' ∧ RepS (cInt .i64) m2 a1 c1 p3 ∧ MapQ (fun n : Int => Value.int .u8 n) (cInt .i64) false m2 q1 es1 ck1 p2) N ⟨p1, m, hr, rfl, hm, st, r2, r1⟩ ?_)
 clear st hr
 rintro k1 _ w2 ⟨s1, m2, hL, rfl, hm, st, r2, r1⟩
 rcases k1 with _ | k1
 ·exact loopM_zero hL
 ·obtain ⟨qu1, hr, hSu1, hBu1⟩ := loopM_succ hL
  clear hL
  unfold lexer_span_L1 at hr
  refine W_seq ?_
  refine W_sr (WO_seg 4 [(15, .bool (decide (s1 < (ByteArray.size p0 : Int))))] kr kr ?_)
  refine WO_et rfl (W_cond (decide (s1 < (ByteArray.size p0 : Int))) kr ?_ ?_)
  ·intro hc
   rw [if_pos hc] at hr
   refine W_skip ?_
   refine X_then ?_
   refine W_block ?_
   refine W_sr (WO_seg 1 [(9, .bool false)] kr kr ?_)
   refine WO_et rfl (W_seq ?_)
   refine W_sr (WO_seg 3 [(16, .slice a1 (List.length p3) c1), (17, .int .i64 (List.length p3 : Int)), (18, .int .i64 0)] kr kr ?_)
   refine WO_et rfl (W_block ?_)
   replace ⟨out2, hr, hrKu2⟩ := bindS hr
   refine W_cut (.exit 2) (fun L' w' => ∃ (o2 : Bool) (m3 : Mem), o2 = out2 ∧ L' = [(0, .string p0), (1, .int .i64 s1), (2, .map q1), (3, .slice a1 (List.length p3) c1), (9, .bool o2)] ∧ m.le m3 ∧ St m3 (mpiece q1 es1 ck1 :: own) w' ∧ RepS (cInt .i64) m3 a1 c1 p3 ∧ MapQ (fun n : Int => Value.int .u8 n) (cInt .i64) false m3 q1 es1 ck1 p2) ?_ ?_
   ·clear hr st
    rintro _ w3 ⟨o2, m3, rfl, rfl, hm, st, r2, r1⟩
    have hr := hrKu2
    clear hrKu2
    refine X_block_eq ?_
    refine X_then ?_
    refine W_seq ?_
    refine W_sr (WO_seg 2 [(34, .bool (!o2))] kr kr ?_)
    refine WO_et rfl (W_cond (!o2) kr ?_ ?_)
    ·intro hc
     rw [if_pos hc] at hr
     refine W_exit ?_
     refine X_then_exit ?_
     refine X_block_ne rfl ?_
     obtain rfl := Option.some.inj hr
     have ho := hBu1 _ rfl
     refine X_then_exit ?_
     exact X_env _ kr (K0_u1 _ _ ⟨s1, m3, ho, rfl, hm, st, r1⟩)
    ·intro hc
     rw [if_neg (not_true hc)] at hr
     refine W_skip ?_
     refine X_then ?_
     refine W_region ?_
     refine WO_seg 3 [(1, .int .i64 (IntKind.wrap .i64 (s1 + 1)))] kr kr ?_
     refine WO_end rfl ?_
     refine X_block ?_
     obtain rfl := Option.some.inj hr
     have hL := hSu1 _ rfl
     exact X_env _ kr (X_round k1 (Nat.lt_succ_self _) ⟨IntKind.wrap .i64 (s1 + 1), m3, hL, rfl, hm, st, r2, r1⟩)
   intro K2_u2
   clear hrKu2
   refine W_env _ kr (W_loop (fun k2 L' w' => ∃ (s2 : Bool × Int) (m4 : Mem), loopM (lexer_span_L2 N p0 p2 p3 s1) k2 s2 = some out2 ∧ L' = [(0, .string p0), (1, .int .i64 s1), (2, .map q1), (3, .slice a1 (List.length p3) c1), (9, .bool s2.1), (16, .slice a1 (List.length p3) c1), (17, .int .i64 (List.length p3 : Int)), (18, .int .i64 s2.2)] ∧ m.le m4 ∧ St m4 (mpiece q1 es1 ck1 :: own) w' ∧ RepS (cInt .i64) m4 a1 c1 p3 ∧ MapQ (fun n : Int => Value.int .u8 n) (cInt .i64) false m4 q1 es1 ck1 p2) N ⟨(false, 0), m2, hr, rfl, hm, st, r2, r1⟩ ?_)
   clear st hr
   rintro k2 _ w4 ⟨s2, m4, hL, rfl, hm, st, r2, r1⟩
   rcases k2 with _ | k2
   ·exact loopM_zero hL
   ·obtain ⟨qu2, hr, hSu2, hBu2⟩ := loopM_succ hL
    clear hL
    unfold lexer_span_L2 at hr
    refine W_sr (WO_seg 1 [(19, .bool (decide (s2.2 < (List.length p3 : Int))))] kr kr ?_)
    refine WO_et rfl (W_seq ?_)
    refine W_cond (decide (s2.2 < (List.length p3 : Int))) kr ?_ ?_
    ·intro hc
     rw [if_pos hc] at hr
     refine W_skip ?_
     refine X_then ?_
     refine W_seq ?_
     refine W_block ?_
     refine W_sr ?_
     replace ⟨x1, hx1, hr⟩ := bindS hr
     refine WO_one rfl (One_index (d := 20) (t := 22) (e := 3) (x := (.tmp 16)) (y := (.tmp 18)) (cInt .i64) kr rfl (ev (.slice a1 (List.length p3) c1)) (ev (.int .i64 s2.2)) kr r2 hx1 ?_)
     rintro b1 f1 cs1 rfl hq1
     refine WO_one rfl (One_load_row (d := 21) (t := 3) (x := (.tmp 20)) (.int .i64 x1) kr rfl (ev (.pointer (some ⟨b1, f1, none⟩))) st hq1 kr ?_)
     refine WO_seg 1 [(11, .int .i64 x1)] kr kr ?_
     refine WO_et rfl (W_region ?_)
     replace ⟨o3, hr, hrK⟩ := bindS hr
     refine WO_cut (j := 11) (fun L' w' => ∃ (m5 : Mem), L' = [(0, .string p0), (1, .int .i64 s1), (2, .map q1), (3, .slice a1 (List.length p3) c1), (9, .bool o3), (16, .slice a1 (List.length p3) c1), (17, .int .i64 (List.length p3 : Int)), (18, .int .i64 s2.2)] ∧ m.le m5 ∧ St m5 (mpiece q1 es1 ck1 :: own) w' ∧ RepS (cInt .i64) m5 a1 c1 p3 ∧ MapQ (fun n : Int => Value.int .u8 n) (cInt .i64) false m5 q1 es1 ck1 p2) ?_ ?_
     ·clear hr st
      have hr := hrK
      clear hrK
      rintro _ w5 ⟨m5, rfl, hm, st, r2, r1⟩
      refine WO_end rfl ?_
      refine X_block ?_
      refine X_then ?_
      refine W_region ?_
      refine WO_seg 2 [(18, .int .i64 (IntKind.wrap .i64 (s2.2 + 1)))] kr kr ?_
      refine WO_end rfl ?_
      obtain rfl := Option.some.inj hr
      have hL := hSu2 _ rfl
      exact X_env _ kr (X_round k2 (Nat.lt_succ_self _) ⟨(o3, IntKind.wrap .i64 (s2.2 + 1)), m5, hL, rfl, hm, st, r2, r1⟩)
     ·intro K
      clear hrK
      refine WO_seg 2 [(23, .bool s2.1)] kr kr ?_
      rcases bcases s2.1 with hc | hc
      ·rw [if_pos hc] at hr
       refine WO_fact (t := 23) (b := true) s2.1 kr hc ?_
       refine WO_seg 9 [(9, .bool true)] kr kr ?_
       obtain rfl := Option.some.inj hr
       exact WO_env _ kr (K _ _ ⟨m4, rfl, hm, st, r2, r1⟩)
      ·rw [if_neg (not_true hc)] at hr
       refine WO_fact (t := 23) (b := false) s2.1 kr hc ?_
       refine WO_seg 3 [(24, .map q1), (25, .string p0), (26, .int .i64 s1)] kr kr ?_
       replace ⟨x2, hx2, hr⟩ := bindS hr
       refine WO_one rfl (One_strIndex (d := 27) (t := 9) (x := (.tmp 25)) (y := (.tmp 26)) kr rfl (ev (.string p0)) (ev (.int .i64 s1)) kr hx2 ?_)
       refine WO_one rfl (One_lookup (ek := (fun n : Int => Value.int .u8 n)) (c := (cInt .i64)) (agg := false) (k := (x2.toNat : Int)) (zx := 0) (zcs := [.int .i64 0]) (z := (.int .i64 0)) (kt := 5) (et := 3) (d := 28) (t := 127) (x := (.tmp 24)) (y := (.tmp 27)) (ok := false) kr rfl (ev (.map q1)) (ev (.int .u8 (x2.toNat : Int))) kr (keyInt kr) st.head r1 rfl rfl ?_)
       rintro cs2 rfl
       refine WO_seg 4 [(9, .bool (((mgetQ p2 (x2.toNat : Int)).getD 0) == x1))] kr kr ?_
       obtain rfl := Option.some.inj hr
       exact WO_env _ kr (K _ _ ⟨m4, rfl, hm, st, r2, r1⟩)
    ·intro hc
     rw [if_neg (not_true hc)] at hr
     refine W_exit ?_
     refine X_then_exit ?_
     obtain rfl := Option.some.inj hr
     have ho := hBu2 _ rfl
     refine X_then_exit ?_
     exact X_env _ kr (K2_u2 _ _ ⟨s2.1, m4, ho, rfl, hm, st, r2, r1⟩)
  ·intro hc
   rw [if_neg (not_true hc)] at hr
   refine W_exit ?_
   refine X_then_exit ?_
   obtain rfl := Option.some.inj hr
   have ho := hBu1 _ rfl
   refine X_then_exit ?_
   exact X_env _ kr (K0_u1 _ _ ⟨s1, m2, ho, rfl, hm, st, r1⟩)
def lexer_Name (N : Nat) (p0 : ByteArray) : Option (Bool) :=
 (lexer_kinds N).bind fun y1 => (if (decide ((ByteArray.size p0 : Int) ≥ 1)) = true then (if (decide ((ByteArray.size p0 : Int) ≤ 24)) = true then ((idxB p0 0).bind fun x1 => if (((mgetQ y1 (x1.toNat : Int)).getD 0) == 1) = true then ((lexer_span N p0 0 y1 ([1, 2, 3])).bind fun y2 => some (y2 == (ByteArray.size p0 : Int))) else (some false)) else (some false)) else (some false) : Option (Bool)).bind fun o1 => some o1
set_option maxHeartbeats 4000000 in
set_option maxRecDepth 100000 in
theorem lexer_Name_ok {N : Nat} {m : Mem} {own : List Piece} {w : World} {p0 : ByteArray} {r : Bool} (st : St m (own) w) (hr : lexer_Name N p0 = some r) : Calls Tryd.prog 54 #[.string p0] w fun e w' => ∃ (m' : Mem), e = .returned (.bool r) ∧ m.le m' ∧ St m' (own) w' := by
 unfold lexer_Name at hr
 have hm := m.le_refl
 refine W_calls Tryd.func54 rfl Tryd.ntmps54 [(0, .string p0)] kr rfl ?_
 refine W_sr (WO_seg 1 [] kr kr ?_)
 refine WO_et rfl (W_sr ?_)
 replace ⟨y1, hx1, hr⟩ := bindS hr
 refine WO_one rfl (One_fn 4 80 #[] kr rfl ?_)
 refine (lexer_kinds_ok st hx1).mono ?_
 clear st
 rintro _ w1 ⟨q1, es1, ck1, m1, rfl, hle1, st, r1⟩
 refine ⟨_, rfl, ?_⟩
 have hm := Mem.le_trans hm hle1
 refine WO_seg 1 [(3, .map q1)] kr kr ?_
 refine WO_et rfl (W_sr ?_)
 replace ⟨o1, hr, hrK⟩ := bindS hr
 refine WO_cut (j := 25) (fun L' w' => ∃ (m2 : Mem), L' = [(2, .bool o1)] ∧ m.le m2 ∧ St m2 (mpiece q1 es1 ck1 :: own) w' ∧ MapQ (fun n : Int => Value.int .u8 n) (cInt .i64) false m2 q1 es1 ck1 y1) ?_ ?_
 ·clear hr st
  have hr := hrK
  clear hrK
  rintro _ w2 ⟨m2, rfl, hm, st, r1⟩
  refine WO_et rfl (W_ret ?_)
  obtain rfl := Option.some.inj hr
  refine X_ret [.tmp 2] [.bool o1] rfl (ResAll.cons (ResAt.tmp kr) ResAll.nil) ?_
  have st := st.tail
  exact ⟨m2, rfl, hm, st⟩
 ·intro K
  clear hrK
  refine WO_seg 4 [(8, .bool (decide ((ByteArray.size p0 : Int) ≥ 1)))] kr kr ?_
  rcases bcases (decide ((ByteArray.size p0 : Int) ≥ 1)) with hc | hc
  ·rw [if_pos hc] at hr
   refine WO_fact (t := 8) (b := true) (decide ((ByteArray.size p0 : Int) ≥ 1)) kr hc ?_
   refine WO_seg 5 [(13, .bool (decide ((ByteArray.size p0 : Int) ≤ 24)))] kr kr ?_
   rcases bcases (decide ((ByteArray.size p0 : Int) ≤ 24)) with hc | hc
   ·rw [if_pos hc] at hr
    refine WO_fact (t := 13) (b := true) (decide ((ByteArray.size p0 : Int) ≤ 24)) kr hc ?_
    refine WO_seg 2 [(14, .map q1), (15, .string p0)] kr kr ?_
    replace ⟨x1, hx2, hr⟩ := bindS hr
    refine WO_one rfl (One_strIndex (d := 16) (t := 9) (x := (.tmp 15)) (y := (.const (.int .i64 0))) kr rfl (ev (.string p0)) (ev (.int .i64 0)) kr hx2 ?_)
    refine WO_one rfl (One_lookup (ek := (fun n : Int => Value.int .u8 n)) (c := (cInt .i64)) (agg := false) (k := (x1.toNat : Int)) (zx := 0) (zcs := [.int .i64 0]) (z := (.int .i64 0)) (kt := 5) (et := 3) (d := 17) (t := 127) (x := (.tmp 14)) (y := (.tmp 16)) (ok := false) kr rfl (ev (.map q1)) (ev (.int .u8 (x1.toNat : Int))) kr (keyInt kr) st.head r1 rfl rfl ?_)
    rintro cs1 rfl
    refine WO_seg 3 [(20, .bool (((mgetQ y1 (x1.toNat : Int)).getD 0) == 1))] kr kr ?_
    rcases bcases (((mgetQ y1 (x1.toNat : Int)).getD 0) == 1) with hc | hc
    ·rw [if_pos hc] at hr
     refine WO_fact (t := 20) (b := true) (((mgetQ y1 (x1.toNat : Int)).getD 0) == 1) kr hc ?_
     refine WO_seg 2 [(21, .string p0), (22, .map q1)] kr kr ?_
     refine WO_one rfl (One_buildSlice (d := 23) (t := 22) (e := 3) (len := 3) (parts := #[(0, (.const (.int .i64 1))), (1, (.const (.int .i64 2))), (2, (.const (.int .i64 3)))]) (cInt .i64) (xs := [1, 2, 3]) [.int .i64 1, .int .i64 2, .int .i64 3] kr rfl (fun _ => buildCells_run kr _) rfl rfl st ⟨[.int .i64 1], _, rfl, rfl, ⟨[.int .i64 2], _, rfl, rfl, ⟨[.int .i64 3], _, rfl, rfl, rfl⟩⟩⟩ ?_)
     clear st
     intro b1 m3 w3 hle2 st r2
     have hm := Mem.le_trans hm hle2
     have r1 := r1.mono hle2
     have st := st.front1
     replace ⟨y2, hx3, hr⟩ := bindS hr
     refine WO_one rfl (One_fn 24 81 #[.string p0, .int .i64 0, .map q1, .slice (some ⟨b1, 0, none⟩) (List.length ([1, 2, 3])) 3] kr rfl ?_)
     refine (lexer_span_ok st r1 r2 hx3).mono ?_
     clear st
     rintro _ w4 ⟨m4, rfl, hle3, st⟩
     refine ⟨_, rfl, ?_⟩
     have hm := Mem.le_trans hm hle3
     have r2 := r2.mono hle3
     have r1 := r1.mono hle3
     refine WO_seg 5 [(2, .bool (y2 == (ByteArray.size p0 : Int)))] kr kr ?_
     obtain rfl := Option.some.inj hr
     have st := st.front1
     have st := st.tail
     exact WO_env _ kr (K _ _ ⟨m4, rfl, hm, st, r1⟩)
    ·rw [if_neg (not_true hc)] at hr
     refine WO_fact (t := 20) (b := false) (((mgetQ y1 (x1.toNat : Int)).getD 0) == 1) kr hc ?_
     refine WO_seg 9 [(2, .bool false)] kr kr ?_
     obtain rfl := Option.some.inj hr
     exact WO_env _ kr (K _ _ ⟨m1, rfl, hm, st, r1⟩)
   ·rw [if_neg (not_true hc)] at hr
    refine WO_fact (t := 13) (b := false) (decide ((ByteArray.size p0 : Int) ≤ 24)) kr hc ?_
    refine WO_seg 16 [(2, .bool false)] kr kr ?_
    obtain rfl := Option.some.inj hr
    exact WO_env _ kr (K _ _ ⟨m1, rfl, hm, st, r1⟩)
  ·rw [if_neg (not_true hc)] at hr
   refine WO_fact (t := 8) (b := false) (decide ((ByteArray.size p0 : Int) ≥ 1)) kr hc ?_
   refine WO_seg 21 [(2, .bool false)] kr kr ?_
   obtain rfl := Option.some.inj hr
   exact WO_env _ kr (K _ _ ⟨m1, rfl, hm, st, r1⟩)
def internal_stringslite_IndexByte (N : Nat) (p0 : ByteArray) (p1 : Int) : Option (Int) :=
 some (ixB p0 p1)
set_option maxHeartbeats 4000000 in
set_option maxRecDepth 100000 in
theorem internal_stringslite_IndexByte_ok {N : Nat} {m : Mem} {own : List Piece} {w : World} {p0 : ByteArray} {p1 : Int} {r : Int} (st : St m (own) w) (hr : internal_stringslite_IndexByte N p0 p1 = some r) : Calls Tryd.prog 148 #[.string p0, .int .u8 p1] w fun e w' => ∃ (m' : Mem), e = .returned (.int .i64 r) ∧ m.le m' ∧ St m' (own) w' := by
 unfold internal_stringslite_IndexByte at hr
 have hm := m.le_refl
 refine W_calls Tryd.func148 rfl Tryd.ntmps148 [(0, .string p0), (1, .int .u8 p1)] kr rfl ?_
 refine W_sr (WO_seg 1 [] kr kr ?_)
 refine WO_et rfl (W_sr ?_)
 refine WO_seg 2 [(5, .string p0), (6, .int .u8 p1)] kr kr ?_
 refine WO_one rfl (One_indexByte (d := 7) (f := 163) (x := (.tmp 5)) (y := (.tmp 6)) (ts := #[9, 5]) kr rfl (ev (.string p0)) (ev (.int .u8 p1)) Tryd.func163 kr kr ?_)
 refine WO_seg 1 [(4, .int .i64 (ixB p0 p1))] kr kr ?_
 refine WO_et rfl (W_ret ?_)
 obtain rfl := Option.some.inj hr
 refine X_ret [.tmp 4] [.int .i64 (ixB p0 p1)] rfl (ResAll.cons (ResAt.tmp kr) ResAll.nil) ?_
 exact ⟨m, rfl, hm, st⟩
def internal_stringslite_Index (N : Nat) (p0 : ByteArray) (p1 : ByteArray) : Option (Int) :=
 (if ((ByteArray.size p1 : Int) == 0) = true then (some true) else (some (p1.toList == p0.toList)) : Option (Bool)).bind fun o1 => if o1 = true then (some 0) else (if ((ByteArray.size p1 : Int) == 1) = true then ((idxB p1 0).bind fun x1 => (internal_stringslite_IndexByte N p0 (x1.toNat : Int)).bind fun y1 => some y1) else (if (decide ((ByteArray.size p1 : Int) ≥ (ByteArray.size p0 : Int))) = true then (some (-1)) else none))
set_option maxHeartbeats 4000000 in
set_option maxRecDepth 100000 in
theorem internal_stringslite_Index_ok {N : Nat} {m : Mem} {own : List Piece} {w : World} {p0 : ByteArray} {p1 : ByteArray} {r : Int} (st : St m (own) w) (hr : internal_stringslite_Index N p0 p1 = some r) : Calls Tryd.prog 161 #[.string p0, .string p1] w fun e w' => ∃ (m' : Mem), e = .returned (.int .i64 r) ∧ m.le m' ∧ St m' (own) w' := by
 unfold internal_stringslite_Index at hr
 have hm := m.le_refl
 refine W_calls Tryd.func161 rfl Tryd.ntmps161 [(0, .string p0), (1, .string p1)] kr rfl ?_
 refine W_sr (WO_seg 1 [] kr kr ?_)
 refine WO_et rfl (W_sr ?_)
 refine WO_seg 3 [(5, .int .i64 (ByteArray.size p1 : Int))] kr kr ?_
 refine WO_et rfl (W_seq ?_)
 refine W_block ?_
 refine W_sr ?_
 replace ⟨o1, hr, hrK⟩ := bindS hr
 refine WO_cut (j := 8) (fun L' w' => ∃ (m1 : Mem), L' = [(0, .string p0), (1, .string p1), (5, .int .i64 (ByteArray.size p1 : Int)), (16, .bool o1)] ∧ m.le m1 ∧ St m1 (own) w') ?_ ?_
 ·clear hr st
  have hr := hrK
  clear hrK
  rintro _ w1 ⟨m1, rfl, hm, st⟩
  refine WO_et rfl (W_cond o1 kr ?_ ?_)
  ·intro hc
   rw [if_pos hc] at hr
   refine W_sr (WO_seg 1 [(4, .int .i64 0)] kr kr ?_)
   refine WO_et rfl (W_ret ?_)
   refine X_block_ret ?_
   refine X_then_ret ?_
   obtain rfl := Option.some.inj hr
   refine X_ret [.tmp 4] [.int .i64 0] rfl (ResAll.cons (ResAt.tmp kr) ResAll.nil) ?_
   exact ⟨m1, rfl, hm, st⟩
  ·intro hc
   rw [if_neg (not_true hc)] at hr
   refine W_sr (WO_seg 3 [(24, .bool ((ByteArray.size p1 : Int) == 1))] kr kr ?_)
   refine WO_et rfl (W_cond ((ByteArray.size p1 : Int) == 1) kr ?_ ?_)
   ·intro hc
    rw [if_pos hc] at hr
    refine W_sr (WO_seg 2 [(27, .string p0), (28, .string p1)] kr kr ?_)
    replace ⟨x1, hx1, hr⟩ := bindS hr
    refine WO_one rfl (One_strIndex (d := 29) (t := 9) (x := (.tmp 28)) (y := (.const (.int .i64 0))) kr rfl (ev (.string p1)) (ev (.int .i64 0)) kr hx1 ?_)
    replace ⟨y1, hx2, hr⟩ := bindS hr
    refine WO_one rfl (One_fn 30 148 #[.string p0, .int .u8 (x1.toNat : Int)] kr rfl ?_)
    refine (internal_stringslite_IndexByte_ok st hx2).mono ?_
    clear st
    rintro _ w2 ⟨m2, rfl, hle1, st⟩
    refine ⟨_, rfl, ?_⟩
    have hm := Mem.le_trans hm hle1
    refine WO_seg 1 [(4, .int .i64 y1)] kr kr ?_
    refine WO_et rfl (W_ret ?_)
    refine X_block_ret ?_
    refine X_then_ret ?_
    obtain rfl := Option.some.inj hr
    refine X_ret [.tmp 4] [.int .i64 y1] rfl (ResAll.cons (ResAt.tmp kr) ResAll.nil) ?_
    exact ⟨m2, rfl, hm, st⟩
   ·intro hc
    rw [if_neg (not_true hc)] at hr
    refine W_sr (WO_seg 5 [(31, .bool (decide ((ByteArray.size p1 : Int) ≥ (ByteArray.size p0 : Int))))] kr kr ?_)
    refine WO_et rfl (W_cond (decide ((ByteArray.size p1 : Int) ≥ (ByteArray.size p0 : Int))) kr ?_ ?_)
    ·intro hc
     rw [if_pos hc] at hr
     refine W_sr (WO_seg 1 [(4, .int .i64 (-1))] kr kr ?_)
     refine WO_et rfl (W_ret ?_)
     refine X_block_ret ?_
     refine X_then_ret ?_
     obtain rfl := Option.some.inj hr
     refine X_ret [.tmp 4] [.int .i64 (-1)] rfl (ResAll.cons (ResAt.tmp kr) ResAll.nil) ?_
     exact ⟨m1, rfl, hm, st⟩
    ·intro hc
     rw [if_neg (not_true hc)] at hr
     cases hr
 ·intro K
  clear hrK
  refine WO_seg 3 [(19, .bool ((ByteArray.size p1 : Int) == 0))] kr kr ?_
  rcases bcases ((ByteArray.size p1 : Int) == 0) with hc | hc
  ·rw [if_pos hc] at hr
   refine WO_fact (t := 19) (b := true) ((ByteArray.size p1 : Int) == 0) kr hc ?_
   refine WO_seg 5 [(16, .bool true)] kr kr ?_
   obtain rfl := Option.some.inj hr
   exact WO_env _ kr (K _ _ ⟨m, rfl, hm, st⟩)
  ·rw [if_neg (not_true hc)] at hr
   refine WO_fact (t := 19) (b := false) ((ByteArray.size p1 : Int) == 0) kr hc ?_
   refine WO_seg 5 [(16, .bool (p1.toList == p0.toList))] kr kr ?_
   obtain rfl := Option.some.inj hr
   exact WO_env _ kr (K _ _ ⟨m, rfl, hm, st⟩)
def strings_Index (N : Nat) (p0 : ByteArray) (p1 : ByteArray) : Option (Int) :=
 (internal_stringslite_Index N p0 p1).bind fun y1 => some y1
set_option maxHeartbeats 4000000 in
set_option maxRecDepth 100000 in
theorem strings_Index_ok {N : Nat} {m : Mem} {own : List Piece} {w : World} {p0 : ByteArray} {p1 : ByteArray} {r : Int} (st : St m (own) w) (hr : strings_Index N p0 p1 = some r) : Calls Tryd.prog 141 #[.string p0, .string p1] w fun e w' => ∃ (m' : Mem), e = .returned (.int .i64 r) ∧ m.le m' ∧ St m' (own) w' := by
 unfold strings_Index at hr
 have hm := m.le_refl
 refine W_calls Tryd.func141 rfl Tryd.ntmps141 [(0, .string p0), (1, .string p1)] kr rfl ?_
 refine W_sr (WO_seg 1 [] kr kr ?_)
 refine WO_et rfl (W_sr ?_)
 refine WO_seg 2 [(5, .string p0), (6, .string p1)] kr kr ?_
 replace ⟨y1, hx1, hr⟩ := bindS hr
 refine WO_one rfl (One_fn 7 161 #[.string p0, .string p1] kr rfl ?_)
 refine (internal_stringslite_Index_ok st hx1).mono ?_
 clear st
 rintro _ w1 ⟨m1, rfl, hle1, st⟩
 refine ⟨_, rfl, ?_⟩
 have hm := Mem.le_trans hm hle1
 refine WO_seg 1 [(4, .int .i64 y1)] kr kr ?_
 refine WO_et rfl (W_ret ?_)
 obtain rfl := Option.some.inj hr
 refine X_ret [.tmp 4] [.int .i64 y1] rfl (ResAll.cons (ResAt.tmp kr) ResAll.nil) ?_
 exact ⟨m1, rfl, hm, st⟩
def strings_Count_L1 (N : Nat) (p1 : ByteArray) (s1 : ByteArray × Int) : Option ((ByteArray × Int) ⊕ ((Int))) :=
 (strings_Index N s1.1 p1).bind fun y1 => if (y1 == (-1)) = true then (some (.inr s1.2)) else ((subB s1.1 (IntKind.wrap .i64 (y1 + (ByteArray.size p1 : Int))) (ByteArray.size s1.1 : Int)).bind fun s2 => some (.inl (s2, IntKind.wrap .i64 (s1.2 + 1))))
def strings_Count (N : Nat) (p0 : ByteArray) (p1 : ByteArray) : Option (Int) :=
 if ((ByteArray.size p1 : Int) == 0) = true then none else (if ((ByteArray.size p1 : Int) == 1) = true then ((idxB p1 0).bind fun x1 => some (cntB p0 (x1.toNat : Int))) else ((loopM (strings_Count_L1 N p1) N (p0, 0)).bind fun z => some z))
set_option maxHeartbeats 4000000 in
set_option maxRecDepth 100000 in
theorem strings_Count_ok {N : Nat} {m : Mem} {own : List Piece} {w : World} {p0 : ByteArray} {p1 : ByteArray} {r : Int} (st : St m (own) w) (hr : strings_Count N p0 p1 = some r) : Calls Tryd.prog 140 #[.string p0, .string p1] w fun e w' => ∃ (m' : Mem), e = .returned (.int .i64 r) ∧ m.le m' ∧ St m' (own) w' := by
 unfold strings_Count at hr
 have hm := m.le_refl
 refine W_calls Tryd.func140 rfl Tryd.ntmps140 [(0, .string p0), (1, .string p1)] kr rfl ?_
 refine W_sr (WO_seg 1 [] kr kr ?_)
 refine WO_et rfl (W_seq ?_)
 refine W_sr (WO_seg 3 [(9, .bool ((ByteArray.size p1 : Int) == 0))] kr kr ?_)
 refine WO_et rfl (W_cond ((ByteArray.size p1 : Int) == 0) kr ?_ ?_)
 ·intro hc
  rw [if_pos hc] at hr
  cases hr
 ·intro hc
  rw [if_neg (not_true hc)] at hr
  refine W_skip ?_
  refine X_then ?_
  refine W_seq ?_
  refine W_sr (WO_seg 3 [(15, .bool ((ByteArray.size p1 : Int) == 1))] kr kr ?_)
  refine WO_et rfl (W_cond ((ByteArray.size p1 : Int) == 1) kr ?_ ?_)
  ·intro hc
   rw [if_pos hc] at hr
   refine W_sr (WO_seg 2 [(16, .string p0), (17, .string p1)] kr kr ?_)
   replace ⟨x1, hx1, hr⟩ := bindS hr
   refine WO_one rfl (One_strIndex (d := 18) (t := 9) (x := (.tmp 17)) (y := (.const (.int .i64 0))) kr rfl (ev (.string p1)) (ev (.int .i64 0)) kr hx1 ?_)
   refine WO_one rfl (One_countByte (d := 19) (f := 160) (x := (.tmp 16)) (y := (.tmp 18)) (ts := #[9, 5]) kr rfl (ev (.string p0)) (ev (.int .u8 (x1.toNat : Int))) Tryd.func160 kr kr ?_)
   refine WO_seg 1 [(4, .int .i64 (cntB p0 (x1.toNat : Int)))] kr kr ?_
   refine WO_et rfl (W_ret ?_)
   refine X_then_ret ?_
   obtain rfl := Option.some.inj hr
   refine X_ret [.tmp 4] [.int .i64 (cntB p0 (x1.toNat : Int))] rfl (ResAll.cons (ResAt.tmp kr) ResAll.nil) ?_
   exact ⟨m, rfl, hm, st⟩
  ·intro hc
   rw [if_neg (not_true hc)] at hr
   refine W_skip ?_
   refine X_then ?_
   refine W_sr (WO_seg 1 [(5, .int .i64 0)] kr kr ?_)
   refine WO_et rfl (W_block ?_)
   replace ⟨out1, hr, hrKu1⟩ := bindS hr
   refine W_env _ kr (W_loop (fun k1 L' w' => ∃ (s1 : ByteArray × Int) (m1 : Mem), loopM (strings_Count_L1 N p1) k1 s1 = some out1 ∧ L' = [(0, .string s1.1), (1, .string p1), (5, .int .i64 s1.2)] ∧ m.le m1 ∧ St m1 (own) w') N ⟨(p0, 0), m, hr, rfl, hm, st⟩ ?_)
   clear st hr
   rintro k1 _ w1 ⟨s1, m1, hL, rfl, hm, st⟩
   rcases k1 with _ | k1
   ·exact loopM_zero hL
   ·obtain ⟨qu1, hr, hSu1, hBu1⟩ := loopM_succ hL
    clear hL
    unfold strings_Count_L1 at hr
    refine W_block ?_
    refine W_sr (WO_seg 2 [(20, .string s1.1), (21, .string p1)] kr kr ?_)
    replace ⟨y1, hx2, hr⟩ := bindS hr
    refine WO_one rfl (One_fn 22 141 #[.string s1.1, .string p1] kr rfl ?_)
    refine (strings_Index_ok st hx2).mono ?_
    clear st
    rintro _ w2 ⟨m2, rfl, hle1, st⟩
    refine ⟨_, rfl, ?_⟩
    have hm := Mem.le_trans hm hle1
    refine WO_seg 1 [(6, .int .i64 y1)] kr kr ?_
    refine WO_et rfl (W_seq ?_)
    refine W_sr (WO_seg 2 [(24, .bool (y1 == (-1)))] kr kr ?_)
    refine WO_et rfl (W_cond (y1 == (-1)) kr ?_ ?_)
    ·intro hc
     rw [if_pos hc] at hr
     refine W_sr (WO_seg 2 [(4, .int .i64 s1.2)] kr kr ?_)
     refine WO_et rfl (W_ret ?_)
     refine X_then_ret ?_
     refine X_block_ret ?_
     obtain rfl := Option.some.inj hr
     have ho := hBu1 _ rfl
     subst ho
     have hr := hrKu1
     refine X_then_ret ?_
     refine X_block_ret ?_
     obtain rfl := Option.some.inj hr
     refine X_ret [.tmp 4] [.int .i64 s1.2] rfl (ResAll.cons (ResAt.tmp kr) ResAll.nil) ?_
     exact ⟨m2, rfl, hm, st⟩
    ·intro hc
     rw [if_neg (not_true hc)] at hr
     refine W_skip ?_
     refine X_then ?_
     refine W_sr (WO_seg 3 [(5, .int .i64 (IntKind.wrap .i64 (s1.2 + 1)))] kr kr ?_)
     refine WO_et rfl (W_region ?_)
     refine WO_seg 5 [(28, .string s1.1), (32, .int .i64 (IntKind.wrap .i64 (y1 + (ByteArray.size p1 : Int))))] kr kr ?_
     replace ⟨s2, hx3, hr⟩ := bindS hr
     refine WO_one rfl (One_strSlice (d := 33) (t := 9) (x := (.tmp 28)) (lo := (some (.tmp 32))) (hi := none) kr rfl (ev (.string s1.1)) kr (.inr ⟨_, _, rfl, (ev (.int .i64 (IntKind.wrap .i64 (y1 + (ByteArray.size p1 : Int)))))⟩) (.inl ⟨rfl, rfl⟩) hx3 ?_)
     refine WO_seg 1 [(0, .string s2)] kr kr ?_
     refine WO_end rfl ?_
     refine X_block ?_
     obtain rfl := Option.some.inj hr
     have hL := hSu1 _ rfl
     exact X_env _ kr (X_round k1 (Nat.lt_succ_self _) ⟨(s2, IntKind.wrap .i64 (s1.2 + 1)), m2, hL, rfl, hm, st⟩)
def strings_genSplit_L1 (N : Nat) (p0 : ByteArray) (p1 : ByteArray) (p2 : Int) (o1 : Int) (s1 : ByteArray × Int × List (ByteArray)) : Option ((ByteArray × Int × List (ByteArray)) ⊕ ((ByteArray × Int × List (ByteArray)))) :=
 if (decide (s1.2.1 < (IntKind.wrap .i64 ((if (IntKind.wrap .i64 ((ByteArray.size p0 : Int) + 1)) < o1 then (IntKind.wrap .i64 ((ByteArray.size p0 : Int) + 1)) else o1) - 1)))) = true then ((strings_Index N s1.1 p1).bind fun y2 => if (decide (y2 < 0)) = true then (some (.inr (s1.1, s1.2.1, s1.2.2))) else ((subB s1.1 0 (IntKind.wrap .i64 (y2 + p2))).bind fun s2 => (idx s1.2.2 s1.2.1).bind fun x1 => (subB s1.1 (IntKind.wrap .i64 (y2 + (ByteArray.size p1 : Int))) (ByteArray.size s1.1 : Int)).bind fun s3 => some (.inl (s3, IntKind.wrap .i64 (s1.2.1 + 1), List.set s1.2.2 (Int.toNat s1.2.1) s2)))) else (some (.inr (s1.1, s1.2.1, s1.2.2)))
def strings_genSplit (N : Nat) (p0 : ByteArray) (p1 : ByteArray) (p2 : Int) (p3 : Int) : Option (List ByteArray) :=
 if (p3 == 0) = true then (some ([] : List (ByteArray))) else (if (p1.toList == (⟨#[]⟩ : ByteArray).toList) = true then none else ((if (decide (p3 < 0)) = true then ((strings_Count N p0 p1).bind fun y1 => some (IntKind.wrap .i64 (y1 + 1))) else (some p3) : Option (Int)).bind fun o1 => (makeA 16 (⟨#[]⟩ : ByteArray) (if (IntKind.wrap .i64 ((ByteArray.size p0 : Int) + 1)) < o1 then (IntKind.wrap .i64 ((ByteArray.size p0 : Int) + 1)) else o1)).bind fun l1 => (loopM (strings_genSplit_L1 N p0 p1 p2 o1) N (p0, 0, l1)).bind fun o2 => (idx o2.2.2 o2.2.1).bind fun x2 => (subS (List.set o2.2.2 (Int.toNat o2.2.1) o2.1) 0 (IntKind.wrap .i64 (o2.2.1 + 1))).bind fun l2 => some l2))
set_option maxHeartbeats 4000000 in
set_option maxRecDepth 100000 in
theorem strings_genSplit_ok {N : Nat} {m : Mem} {own : List Piece} {w : World} {p0 : ByteArray} {p1 : ByteArray} {p2 : Int} {p3 : Int} {r : List ByteArray} (st : St m (own) w) (hr : strings_genSplit N p0 p1 p2 p3 = some r) : Calls Tryd.prog 108 #[.string p0, .string p1, .int .i64 p2, .int .i64 p3] w fun e w' => ∃ (ra1 : Option Addr) (rc1 : Nat) (m' : Mem), e = .returned (.slice ra1 (List.length r) rc1) ∧ m.le m' ∧ St m' (own) w' ∧ RepS cStr m' ra1 rc1 r := by
 unfold strings_genSplit at hr
 have hm := m.le_refl
 refine W_calls Tryd.func108 rfl Tryd.ntmps108 [(0, .string p0), (1, .string p1), (2, .int .i64 p2), (3, .int .i64 p3)] kr rfl ?_
 refine W_sr (WO_seg 1 [] kr kr ?_)
 refine WO_et rfl (W_seq ?_)
 refine W_sr (WO_seg 2 [(13, .bool (p3 == 0))] kr kr ?_)
 refine WO_et rfl (W_cond (p3 == 0) kr ?_ ?_)
 ·intro hc
  rw [if_pos hc] at hr
  refine W_sr (WO_seg 1 [(8, .slice none (List.length ([] : List (ByteArray))) 0)] kr kr ?_)
  refine WO_et rfl (W_ret ?_)
  refine X_then_ret ?_
  obtain rfl := Option.some.inj hr
  refine X_ret [.tmp 8] [.slice none (List.length ([] : List (ByteArray))) 0] rfl (ResAll.cons (ResAt.tmp kr) ResAll.nil) ?_
  exact ⟨none, 0, m, rfl, hm, st, (RepS.nil _ _)⟩
 ·intro hc
  rw [if_neg (not_true hc)] at hr
  refine W_skip ?_
  refine X_then ?_
  refine W_seq ?_
  refine W_sr (WO_seg 2 [(15, .bool (p1.toList == (⟨#[]⟩ : ByteArray).toList))] kr kr ?_)
  refine WO_et rfl (W_cond (p1.toList == (⟨#[]⟩ : ByteArray).toList) kr ?_ ?_)
  ·intro hc
   rw [if_pos hc] at hr
   cases hr
  ·intro hc
   rw [if_neg (not_true hc)] at hr
   refine W_skip ?_
   refine X_then ?_
   refine W_seq ?_
   refine W_sr (WO_seg 2 [(20, .bool (decide (p3 < 0)))] kr kr ?_)
   refine WO_et rfl ?_
   replace ⟨o1, hr, hrKu1⟩ := bindS hr
   refine W_cut .normal (fun L' w' => ∃ (m1 : Mem), L' = [(0, .string p0), (1, .string p1), (2, .int .i64 p2), (3, .int .i64 o1)] ∧ m.le m1 ∧ St m1 (own) w') ?_ ?_
   ·clear hr st
    have hr := hrKu1
    clear hrKu1
    rintro _ w1 ⟨m1, rfl, hm, st⟩
    refine X_then ?_
    refine W_sr (WO_seg 6 [(3, .int .i64 (if (IntKind.wrap .i64 ((ByteArray.size p0 : Int) + 1)) < o1 then (IntKind.wrap .i64 ((ByteArray.size p0 : Int) + 1)) else o1))] kr kr ?_)
    refine WO_et rfl (W_sr ?_)
    refine WO_seg 1 [(30, .int .i64 (if (IntKind.wrap .i64 ((ByteArray.size p0 : Int) + 1)) < o1 then (IntKind.wrap .i64 ((ByteArray.size p0 : Int) + 1)) else o1))] kr kr ?_
    replace ⟨l1, hx2, hr⟩ := bindS hr
    refine WO_one rfl (One_makeArr (d := 31) (t := 46) (e := 9) (by_ := 16) (x := (.tmp 30)) (y := (.tmp 30)) (fun x : ByteArray => Value.string x) kr rfl (ev (.int .i64 (if (IntKind.wrap .i64 ((ByteArray.size p0 : Int) + 1)) < o1 then (IntKind.wrap .i64 ((ByteArray.size p0 : Int) + 1)) else o1))) (ev (.int .i64 (if (IntKind.wrap .i64 ((ByteArray.size p0 : Int) + 1)) < o1 then (IntKind.wrap .i64 ((ByteArray.size p0 : Int) + 1)) else o1))) kr kr rfl st hx2 ?_)
    clear st
    intro b1 w3 hn1 st
    refine WO_seg 1 [(9, .slice (some ⟨b1, 0, none⟩) (Int.toNat (if (IntKind.wrap .i64 ((ByteArray.size p0 : Int) + 1)) < o1 then (IntKind.wrap .i64 ((ByteArray.size p0 : Int) + 1)) else o1)) (Int.toNat (if (IntKind.wrap .i64 ((ByteArray.size p0 : Int) + 1)) < o1 then (IntKind.wrap .i64 ((ByteArray.size p0 : Int) + 1)) else o1)))] kr kr ?_
    refine WO_et rfl (W_sr ?_)
    refine WO_seg 3 [(3, .int .i64 (IntKind.wrap .i64 ((if (IntKind.wrap .i64 ((ByteArray.size p0 : Int) + 1)) < o1 then (IntKind.wrap .i64 ((ByteArray.size p0 : Int) + 1)) else o1) - 1)))] kr kr ?_
    refine WO_et rfl (W_sr ?_)
    refine WO_seg 1 [(10, .int .i64 0)] kr kr ?_
    refine WO_et rfl (W_seq ?_)
    refine W_block ?_
    replace ⟨out1, hr, hrKu2⟩ := bindS hr
    refine W_cut (.exit 0) (fun L' w' => ∃ (o2 : ByteArray × Int × List (ByteArray)) (m3 : Mem), o2 = out1 ∧ L' = [(0, .string o2.1), (9, .slice (some ⟨b1, 0, none⟩) (Int.toNat (if (IntKind.wrap .i64 ((ByteArray.size p0 : Int) + 1)) < o1 then (IntKind.wrap .i64 ((ByteArray.size p0 : Int) + 1)) else o1)) (Int.toNat (if (IntKind.wrap .i64 ((ByteArray.size p0 : Int) + 1)) < o1 then (IntKind.wrap .i64 ((ByteArray.size p0 : Int) + 1)) else o1))), (10, .int .i64 o2.2.1)] ∧ m.le m3 ∧ St m3 (.blk b1 (.cells (acells (fun x : ByteArray => Value.string x) o2.2.2 []) 9 (0, 0)) :: own) w' ∧ List.length o2.2.2 = (Int.toNat (if (IntKind.wrap .i64 ((ByteArray.size p0 : Int) + 1)) < o1 then (IntKind.wrap .i64 ((ByteArray.size p0 : Int) + 1)) else o1))) ?_ ?_
    ·clear hr st
     rintro _ w4 ⟨o2, m3, rfl, rfl, hm, st, hn2⟩
     have hr := hrKu2
     clear hrKu2
     refine X_block_eq ?_
     refine X_then ?_
     refine W_sr (WO_seg 3 [(58, .slice (some ⟨b1, 0, none⟩) (Int.toNat (if (IntKind.wrap .i64 ((ByteArray.size p0 : Int) + 1)) < o1 then (IntKind.wrap .i64 ((ByteArray.size p0 : Int) + 1)) else o1)) (Int.toNat (if (IntKind.wrap .i64 ((ByteArray.size p0 : Int) + 1)) < o1 then (IntKind.wrap .i64 ((ByteArray.size p0 : Int) + 1)) else o1))), (59, .int .i64 o2.2.1), (60, .string o2.1)] kr kr ?_)
     replace ⟨x2, hx7, hr⟩ := bindS hr
     refine WO_one rfl (One_arrIndex (d := 61) (t := 46) (e := 9) (x := (.tmp 58)) (y := (.tmp 59)) kr rfl (ev (.slice (some ⟨b1, 0, none⟩) (Int.toNat (if (IntKind.wrap .i64 ((ByteArray.size p0 : Int) + 1)) < o1 then (IntKind.wrap .i64 ((ByteArray.size p0 : Int) + 1)) else o1)) (Int.toNat (if (IntKind.wrap .i64 ((ByteArray.size p0 : Int) + 1)) < o1 then (IntKind.wrap .i64 ((ByteArray.size p0 : Int) + 1)) else o1)))) (ev (.int .i64 o2.2.1)) kr hn2 hx7 ?_)
     refine WO_one rfl (One_arrStore (f := (fun x : ByteArray => Value.string x)) (u := o2.1) (t := 9) (x := (.tmp 61)) (y := (.tmp 60)) kr (ev (.pointer (some ⟨b1, Int.toNat o2.2.1, none⟩))) (ev (.string o2.1)) st hx7 rfl kr ?_)
     clear st
     intro w8 st
     have hn5 : List.length (List.set o2.2.2 (Int.toNat o2.2.1) o2.1) = (Int.toNat (if (IntKind.wrap .i64 ((ByteArray.size p0 : Int) + 1)) < o1 then (IntKind.wrap .i64 ((ByteArray.size p0 : Int) + 1)) else o1)) := set_len hn2 _ _
     refine WO_et rfl (W_sr ?_)
     refine WO_seg 3 [(62, .slice (some ⟨b1, 0, none⟩) (Int.toNat (if (IntKind.wrap .i64 ((ByteArray.size p0 : Int) + 1)) < o1 then (IntKind.wrap .i64 ((ByteArray.size p0 : Int) + 1)) else o1)) (Int.toNat (if (IntKind.wrap .i64 ((ByteArray.size p0 : Int) + 1)) < o1 then (IntKind.wrap .i64 ((ByteArray.size p0 : Int) + 1)) else o1))), (64, .int .i64 (IntKind.wrap .i64 (o2.2.1 + 1)))] kr kr ?_
     obtain ⟨m6, hle3, st, r1⟩ := St.freeze (c := cStr) st hn5 (Nat.le_refl _) (makeA_le hx2) (acells_size hn5 (Nat.add_zero _)) rfl (fun _ _ => rfl)
     have hm := Mem.le_trans hm hle3
     refine WO_env [(9, .slice (some ⟨b1, 0, none⟩) (List.length (List.set o2.2.2 (Int.toNat o2.2.1) o2.1)) (Int.toNat (if (IntKind.wrap .i64 ((ByteArray.size p0 : Int) + 1)) < o1 then (IntKind.wrap .i64 ((ByteArray.size p0 : Int) + 1)) else o1))), (10, .int .i64 o2.2.1), (62, .slice (some ⟨b1, 0, none⟩) (List.length (List.set o2.2.2 (Int.toNat o2.2.1) o2.1)) (Int.toNat (if (IntKind.wrap .i64 ((ByteArray.size p0 : Int) + 1)) < o1 then (IntKind.wrap .i64 ((ByteArray.size p0 : Int) + 1)) else o1))), (64, .int .i64 (IntKind.wrap .i64 (o2.2.1 + 1)))] (by (try simp only [hn5]); kernel_rfl) ?_
     replace ⟨l2, hx8, hr⟩ := bindS hr
     refine WO_one rfl (One_slice (d := 65) (t := 46) (e := 9) (x := (.tmp 62)) (lo := none) (hi := (some (.tmp 64))) cStr kr rfl (ev (.slice (some ⟨b1, 0, none⟩) (List.length (List.set o2.2.2 (Int.toNat o2.2.1) o2.1)) (Int.toNat (if (IntKind.wrap .i64 ((ByteArray.size p0 : Int) + 1)) < o1 then (IntKind.wrap .i64 ((ByteArray.size p0 : Int) + 1)) else o1)))) kr r1 (.inl ⟨rfl, rfl⟩) (.inr ⟨_, _, rfl, (ev (.int .i64 (IntKind.wrap .i64 (o2.2.1 + 1))))⟩) hx8 ?_)
     intro a1 c1 r2
     refine WO_seg 1 [(8, .slice a1 (List.length l2) c1)] kr kr ?_
     refine WO_end rfl ?_
     have st := st.tail
     refine X_then ?_
     refine W_ret ?_
     obtain rfl := Option.some.inj hr
     refine X_ret [.tmp 8] [.slice a1 (List.length l2) c1] rfl (ResAll.cons (ResAt.tmp kr) ResAll.nil) ?_
     exact ⟨a1, c1, m6, rfl, hm, st, r2⟩
    intro K0_u2
    clear hrKu2
    refine W_env _ kr (W_loop (fun k1 L' w' => ∃ (s1 : ByteArray × Int × List (ByteArray)) (m4 : Mem), loopM (strings_genSplit_L1 N p0 p1 p2 o1) k1 s1 = some out1 ∧ L' = [(0, .string s1.1), (1, .string p1), (2, .int .i64 p2), (3, .int .i64 (IntKind.wrap .i64 ((if (IntKind.wrap .i64 ((ByteArray.size p0 : Int) + 1)) < o1 then (IntKind.wrap .i64 ((ByteArray.size p0 : Int) + 1)) else o1) - 1))), (9, .slice (some ⟨b1, 0, none⟩) (Int.toNat (if (IntKind.wrap .i64 ((ByteArray.size p0 : Int) + 1)) < o1 then (IntKind.wrap .i64 ((ByteArray.size p0 : Int) + 1)) else o1)) (Int.toNat (if (IntKind.wrap .i64 ((ByteArray.size p0 : Int) + 1)) < o1 then (IntKind.wrap .i64 ((ByteArray.size p0 : Int) + 1)) else o1))), (10, .int .i64 s1.2.1)] ∧ m.le m4 ∧ St m4 (.blk b1 (.cells (acells (fun x : ByteArray => Value.string x) s1.2.2 []) 9 (0, 0)) :: own) w' ∧ List.length s1.2.2 = (Int.toNat (if (IntKind.wrap .i64 ((ByteArray.size p0 : Int) + 1)) < o1 then (IntKind.wrap .i64 ((ByteArray.size p0 : Int) + 1)) else o1))) N ⟨(p0, 0, l1), m1, hr, rfl, hm, st, hn1⟩ ?_)
    clear st hr
    rintro k1 _ w5 ⟨s1, m4, hL, rfl, hm, st, hn3⟩
    rcases k1 with _ | k1
    ·exact loopM_zero hL
    ·obtain ⟨qu2, hr, hSu2, hBu2⟩ := loopM_succ hL
     clear hL
     unfold strings_genSplit_L1 at hr
     refine W_seq ?_
     refine W_sr (WO_seg 3 [(36, .bool (decide (s1.2.1 < (IntKind.wrap .i64 ((if (IntKind.wrap .i64 ((ByteArray.size p0 : Int) + 1)) < o1 then (IntKind.wrap .i64 ((ByteArray.size p0 : Int) + 1)) else o1) - 1)))))] kr kr ?_)
     refine WO_et rfl (W_cond (decide (s1.2.1 < (IntKind.wrap .i64 ((if (IntKind.wrap .i64 ((ByteArray.size p0 : Int) + 1)) < o1 then (IntKind.wrap .i64 ((ByteArray.size p0 : Int) + 1)) else o1) - 1)))) kr ?_ ?_)
     ·intro hc
      rw [if_pos hc] at hr
      refine W_skip ?_
      refine X_then ?_
      refine W_block ?_
      refine W_sr (WO_seg 2 [(37, .string s1.1), (38, .string p1)] kr kr ?_)
      replace ⟨y2, hx3, hr⟩ := bindS hr
      refine WO_one rfl (One_fn 39 141 #[.string s1.1, .string p1] kr rfl ?_)
      refine (strings_Index_ok st hx3).mono ?_
      clear st
      rintro _ w6 ⟨m5, rfl, hle2, st⟩
      refine ⟨_, rfl, ?_⟩
      have hm := Mem.le_trans hm hle2
      refine WO_seg 1 [(11, .int .i64 y2)] kr kr ?_
      refine WO_et rfl (W_seq ?_)
      refine W_sr (WO_seg 2 [(41, .bool (decide (y2 < 0)))] kr kr ?_)
      refine WO_et rfl (W_cond (decide (y2 < 0)) kr ?_ ?_)
      ·intro hc
       rw [if_pos hc] at hr
       refine W_exit ?_
       refine X_then_exit ?_
       refine X_block_ne rfl ?_
       obtain rfl := Option.some.inj hr
       have ho := hBu2 _ rfl
       refine X_then_exit ?_
       exact X_env _ kr (K0_u2 _ _ ⟨(s1.1, s1.2.1, s1.2.2), m5, ho, rfl, hm, st, hn3⟩)
      ·intro hc
       rw [if_neg (not_true hc)] at hr
       refine W_skip ?_
       refine X_then ?_
       refine W_sr (WO_seg 6 [(42, .slice (some ⟨b1, 0, none⟩) (Int.toNat (if (IntKind.wrap .i64 ((ByteArray.size p0 : Int) + 1)) < o1 then (IntKind.wrap .i64 ((ByteArray.size p0 : Int) + 1)) else o1)) (Int.toNat (if (IntKind.wrap .i64 ((ByteArray.size p0 : Int) + 1)) < o1 then (IntKind.wrap .i64 ((ByteArray.size p0 : Int) + 1)) else o1))), (43, .int .i64 s1.2.1), (44, .string s1.1), (47, .int .i64 (IntKind.wrap .i64 (y2 + p2)))] kr kr ?_)
       replace ⟨s2, hx4, hr⟩ := bindS hr
       refine WO_one rfl (One_strSlice (d := 48) (t := 9) (x := (.tmp 44)) (lo := none) (hi := (some (.tmp 47))) kr rfl (ev (.string s1.1)) kr (.inl ⟨rfl, rfl⟩) (.inr ⟨_, _, rfl, (ev (.int .i64 (IntKind.wrap .i64 (y2 + p2))))⟩) hx4 ?_)
       replace ⟨x1, hx5, hr⟩ := bindS hr
       refine WO_one rfl (One_arrIndex (d := 49) (t := 46) (e := 9) (x := (.tmp 42)) (y := (.tmp 43)) kr rfl (ev (.slice (some ⟨b1, 0, none⟩) (Int.toNat (if (IntKind.wrap .i64 ((ByteArray.size p0 : Int) + 1)) < o1 then (IntKind.wrap .i64 ((ByteArray.size p0 : Int) + 1)) else o1)) (Int.toNat (if (IntKind.wrap .i64 ((ByteArray.size p0 : Int) + 1)) < o1 then (IntKind.wrap .i64 ((ByteArray.size p0 : Int) + 1)) else o1)))) (ev (.int .i64 s1.2.1)) kr hn3 hx5 ?_)
       refine WO_one rfl (One_arrStore (f := (fun x : ByteArray => Value.string x)) (u := s2) (t := 9) (x := (.tmp 49)) (y := (.tmp 48)) kr (ev (.pointer (some ⟨b1, Int.toNat s1.2.1, none⟩))) (ev (.string s2)) st hx5 rfl kr ?_)
       clear st
       intro w7 st
       have hn4 : List.length (List.set s1.2.2 (Int.toNat s1.2.1) s2) = (Int.toNat (if (IntKind.wrap .i64 ((ByteArray.size p0 : Int) + 1)) < o1 then (IntKind.wrap .i64 ((ByteArray.size p0 : Int) + 1)) else o1)) := set_len hn3 _ _
       refine WO_et rfl (W_sr ?_)
       refine WO_seg 5 [(50, .string s1.1), (54, .int .i64 (IntKind.wrap .i64 (y2 + (ByteArray.size p1 : Int))))] kr kr ?_
       replace ⟨s3, hx6, hr⟩ := bindS hr
       refine WO_one rfl (One_strSlice (d := 55) (t := 9) (x := (.tmp 50)) (lo := (some (.tmp 54))) (hi := none) kr rfl (ev (.string s1.1)) kr (.inr ⟨_, _, rfl, (ev (.int .i64 (IntKind.wrap .i64 (y2 + (ByteArray.size p1 : Int)))))⟩) (.inl ⟨rfl, rfl⟩) hx6 ?_)
       refine WO_seg 1 [(0, .string s3)] kr kr ?_
       refine WO_et rfl (W_region ?_)
       refine WO_seg 3 [(10, .int .i64 (IntKind.wrap .i64 (s1.2.1 + 1)))] kr kr ?_
       refine WO_end rfl ?_
       refine X_block ?_
       obtain rfl := Option.some.inj hr
       have hL := hSu2 _ rfl
       exact X_env _ kr (X_round k1 (Nat.lt_succ_self _) ⟨(s3, IntKind.wrap .i64 (s1.2.1 + 1), List.set s1.2.2 (Int.toNat s1.2.1) s2), m5, hL, rfl, hm, st, hn4⟩)
     ·intro hc
      rw [if_neg (not_true hc)] at hr
      refine W_exit ?_
      refine X_then_exit ?_
      obtain rfl := Option.some.inj hr
      have ho := hBu2 _ rfl
      refine X_then_exit ?_
      exact X_env _ kr (K0_u2 _ _ ⟨(s1.1, s1.2.1, s1.2.2), m4, ho, rfl, hm, st, hn3⟩)
   ·intro Ku1
    clear hrKu1
    refine W_cond (decide (p3 < 0)) kr ?_ ?_
    ·intro hc
     rw [if_pos hc] at hr
     refine W_region ?_
     refine WO_seg 2 [(21, .string p0), (22, .string p1)] kr kr ?_
     replace ⟨y1, hx1, hr⟩ := bindS hr
     refine WO_one rfl (One_fn 23 140 #[.string p0, .string p1] kr rfl ?_)
     refine (strings_Count_ok st hx1).mono ?_
     clear st
     rintro _ w2 ⟨m2, rfl, hle1, st⟩
     refine ⟨_, rfl, ?_⟩
     have hm := Mem.le_trans hm hle1
     refine WO_seg 2 [(3, .int .i64 (IntKind.wrap .i64 (y1 + 1)))] kr kr ?_
     refine WO_end rfl ?_
     obtain rfl := Option.some.inj hr
     exact X_env _ kr (Ku1 _ _ ⟨m2, rfl, hm, st⟩)
    ·intro hc
     rw [if_neg (not_true hc)] at hr
     refine W_skip ?_
     obtain rfl := Option.some.inj hr
     exact X_env _ kr (Ku1 _ _ ⟨m, rfl, hm, st⟩)
def strings_Split (N : Nat) (p0 : ByteArray) (p1 : ByteArray) : Option (List ByteArray) :=
 (strings_genSplit N p0 p1 0 (-1)).bind fun y1 => some y1
set_option maxHeartbeats 4000000 in
set_option maxRecDepth 100000 in
theorem strings_Split_ok {N : Nat} {m : Mem} {own : List Piece} {w : World} {p0 : ByteArray} {p1 : ByteArray} {r : List ByteArray} (st : St m (own) w) (hr : strings_Split N p0 p1 = some r) : Calls Tryd.prog 79 #[.string p0, .string p1] w fun e w' => ∃ (ra1 : Option Addr) (rc1 : Nat) (m' : Mem), e = .returned (.slice ra1 (List.length r) rc1) ∧ m.le m' ∧ St m' (own) w' ∧ RepS cStr m' ra1 rc1 r := by
 unfold strings_Split at hr
 have hm := m.le_refl
 refine W_calls Tryd.func79 rfl Tryd.ntmps79 [(0, .string p0), (1, .string p1)] kr rfl ?_
 refine W_sr (WO_seg 1 [] kr kr ?_)
 refine WO_et rfl (W_sr ?_)
 refine WO_seg 2 [(5, .string p0), (6, .string p1)] kr kr ?_
 replace ⟨y1, hx1, hr⟩ := bindS hr
 refine WO_one rfl (One_fn 7 108 #[.string p0, .string p1, .int .i64 0, .int .i64 (-1)] kr rfl ?_)
 refine (strings_genSplit_ok st hx1).mono ?_
 clear st
 rintro _ w1 ⟨a1, c1, m1, rfl, hle1, st, r1⟩
 refine ⟨_, rfl, ?_⟩
 have hm := Mem.le_trans hm hle1
 refine WO_seg 1 [(4, .slice a1 (List.length y1) c1)] kr kr ?_
 refine WO_et rfl (W_ret ?_)
 obtain rfl := Option.some.inj hr
 refine X_ret [.tmp 4] [.slice a1 (List.length y1) c1] rfl (ResAll.cons (ResAt.tmp kr) ResAll.nil) ?_
 exact ⟨a1, c1, m1, rfl, hm, st, r1⟩
def lexer_Path_L1 (N : Nat) (y1 : List ByteArray) (y2 : Option (List (Int × Int))) (s1 : Int) : Option ((Int) ⊕ ((Unit) ⊕ (Bool))) :=
 if (decide (s1 < (List.length y1 : Int))) = true then ((idx y1 s1).bind fun x1 => (if (decide ((ByteArray.size x1 : Int) < 1)) = true then (some true) else (if (decide ((ByteArray.size x1 : Int) > 24)) = true then (some true) else ((lexer_span N x1 0 y2 ([1, 2, 3, 4])).bind fun y3 => some (y3 != (ByteArray.size x1 : Int)))) : Option (Bool)).bind fun o3 => if o3 = true then (some (.inr (.inr (false)))) else (some (.inl (IntKind.wrap .i64 (s1 + 1))))) else (some (.inr (.inl ())))
def lexer_Path (N : Nat) (p0 : ByteArray) : Option (Bool) :=
 (strings_Split N p0 (⟨#[47]⟩ : ByteArray)).bind fun y1 => (if (decide ((ByteArray.size p0 : Int) > 80)) = true then (some true) else (some (decide ((List.length y1 : Int) > 8))) : Option (Bool)).bind fun o1 => if o1 = true then (some false) else ((lexer_kinds N).bind fun y2 => (loopM (lexer_Path_L1 N y1 y2) N 0).bind fun out1 => (match out1 with | .inl o2 => some true | .inr (z) => some z))
set_option maxHeartbeats 4000000 in
set_option maxRecDepth 100000 in
theorem lexer_Path_ok {N : Nat} {m : Mem} {own : List Piece} {w : World} {p0 : ByteArray} {r : Bool} (st : St m (own) w) (hr : lexer_Path N p0 = some r) : Calls Tryd.prog 52 #[.string p0] w fun e w' => ∃ (m' : Mem), e = .returned (.bool r) ∧ m.le m' ∧ St m' (own) w' := by
 unfold lexer_Path at hr
 have hm := m.le_refl
 refine W_calls Tryd.func52 rfl Tryd.ntmps52 [(0, .string p0)] kr rfl ?_
 refine W_sr (WO_seg 1 [] kr kr ?_)
 refine WO_et rfl (W_sr ?_)
 refine WO_seg 1 [(7, .string p0)] kr kr ?_
 replace ⟨y1, hx1, hr⟩ := bindS hr
 refine WO_one rfl (One_fn 8 79 #[.string p0, .string (⟨#[47]⟩ : ByteArray)] kr rfl ?_)
 refine (strings_Split_ok st hx1).mono ?_
 clear st
 rintro _ w1 ⟨a1, c1, m1, rfl, hle1, st, r1⟩
 refine ⟨_, rfl, ?_⟩
 have hm := Mem.le_trans hm hle1
 refine WO_seg 1 [(3, .slice a1 (List.length y1) c1)] kr kr ?_
 refine WO_et rfl (W_seq ?_)
 refine W_sr ?_
 replace ⟨o1, hr, hrK⟩ := bindS hr
 refine WO_cut (j := 8) (fun L' w' => ∃ (m2 : Mem), L' = [(3, .slice a1 (List.length y1) c1), (16, .bool o1)] ∧ m.le m2 ∧ St m2 (own) w' ∧ RepS cStr m2 a1 c1 y1) ?_ ?_
 ·clear hr st
  have hr := hrK
  clear hrK
  rintro _ w2 ⟨m2, rfl, hm, st, r1⟩
  refine WO_et rfl (W_cond o1 kr ?_ ?_)
  ·intro hc
   rw [if_pos hc] at hr
   refine W_sr (WO_seg 1 [(2, .bool false)] kr kr ?_)
   refine WO_et rfl (W_ret ?_)
   refine X_then_ret ?_
   obtain rfl := Option.some.inj hr
   refine X_ret [.tmp 2] [.bool false] rfl (ResAll.cons (ResAt.tmp kr) ResAll.nil) ?_
   exact ⟨m2, rfl, hm, st⟩
  ·intro hc
   rw [if_neg (not_true hc)] at hr
   refine W_skip ?_
   refine X_then ?_
   refine W_sr ?_
   replace ⟨y2, hx2, hr⟩ := bindS hr
   refine WO_one rfl (One_fn 17 80 #[] kr rfl ?_)
   refine (lexer_kinds_ok st hx2).mono ?_
   clear st
   rintro _ w3 ⟨q1, es1, ck1, m3, rfl, hle2, st, r2⟩
   refine ⟨_, rfl, ?_⟩
   have hm := Mem.le_trans hm hle2
   have r1 := r1.mono hle2
   refine WO_seg 1 [(4, .map q1)] kr kr ?_
   refine WO_et rfl (W_seq ?_)
   refine W_sr (WO_seg 3 [(18, .slice a1 (List.length y1) c1), (19, .int .i64 (List.length y1 : Int)), (20, .int .i64 0)] kr kr ?_)
   refine WO_et rfl (W_block ?_)
   replace ⟨out1, hr, hrKu1⟩ := bindS hr
   refine W_cut (.exit 0) (fun L' w' => ∃ (o2 : Unit) (m4 : Mem), (.inl o2) = out1 ∧ L' = [] ∧ m.le m4 ∧ St m4 (mpiece q1 es1 ck1 :: own) w' ∧ MapQ (fun n : Int => Value.int .u8 n) (cInt .i64) false m4 q1 es1 ck1 y2) ?_ ?_
   ·clear hr st
    rintro _ w4 ⟨o2, m4, rfl, rfl, hm, st, r2⟩
    have hr := hrKu1
    clear hrKu1
    dsimp only at hr
    refine X_block_eq ?_
    refine X_then ?_
    refine W_sr (WO_seg 1 [(2, .bool true)] kr kr ?_)
    refine WO_et rfl (W_ret ?_)
    obtain rfl := Option.some.inj hr
    refine X_ret [.tmp 2] [.bool true] rfl (ResAll.cons (ResAt.tmp kr) ResAll.nil) ?_
    have st := st.tail
    exact ⟨m4, rfl, hm, st⟩
   intro K0_u1
   refine W_env _ kr (W_loop (fun k1 L' w' => ∃ (s1 : Int) (m5 : Mem), loopM (lexer_Path_L1 N y1 y2) k1 s1 = some out1 ∧ L' = [(4, .map q1), (18, .slice a1 (List.length y1) c1), (19, .int .i64 (List.length y1 : Int)), (20, .int .i64 s1)] ∧ m.le m5 ∧ St m5 (mpiece q1 es1 ck1 :: own) w' ∧ RepS cStr m5 a1 c1 y1 ∧ MapQ (fun n : Int => Value.int .u8 n) (cInt .i64) false m5 q1 es1 ck1 y2) N ⟨0, m3, hr, rfl, hm, st, r1, r2⟩ ?_)
   clear st hr
   rintro k1 _ w5 ⟨s1, m5, hL, rfl, hm, st, r1, r2⟩
   rcases k1 with _ | k1
   ·exact loopM_zero hL
   ·obtain ⟨qu1, hr, hSu1, hBu1⟩ := loopM_succ hL
    clear hL
    unfold lexer_Path_L1 at hr
    refine W_sr (WO_seg 1 [(21, .bool (decide (s1 < (List.length y1 : Int))))] kr kr ?_)
    refine WO_et rfl (W_seq ?_)
    refine W_cond (decide (s1 < (List.length y1 : Int))) kr ?_ ?_
    ·intro hc
     rw [if_pos hc] at hr
     refine W_skip ?_
     refine X_then ?_
     refine W_seq ?_
     refine W_block ?_
     refine W_sr ?_
     replace ⟨x1, hx3, hr⟩ := bindS hr
     refine WO_one rfl (One_index (d := 22) (t := 46) (e := 9) (x := (.tmp 18)) (y := (.tmp 20)) cStr kr rfl (ev (.slice a1 (List.length y1) c1)) (ev (.int .i64 s1)) kr r1 hx3 ?_)
     rintro b1 f1 cs1 rfl hq1
     refine WO_one rfl (One_load_row (d := 23) (t := 9) (x := (.tmp 22)) (.string x1) kr rfl (ev (.pointer (some ⟨b1, f1, none⟩))) st hq1 kr ?_)
     refine WO_seg 1 [(6, .string x1)] kr kr ?_
     refine WO_et rfl (W_sr ?_)
     replace ⟨o3, hr, hrK⟩ := bindS hr
     refine WO_cut (j := 17) (fun L' w' => ∃ (m6 : Mem), L' = [(4, .map q1), (18, .slice a1 (List.length y1) c1), (19, .int .i64 (List.length y1 : Int)), (20, .int .i64 s1), (40, .bool o3)] ∧ m.le m6 ∧ St m6 (mpiece q1 es1 ck1 :: own) w' ∧ RepS cStr m6 a1 c1 y1 ∧ MapQ (fun n : Int => Value.int .u8 n) (cInt .i64) false m6 q1 es1 ck1 y2) ?_ ?_
     ·clear hr st
      have hr := hrK
      clear hrK
      rintro _ w6 ⟨m6, rfl, hm, st, r1, r2⟩
      refine WO_et rfl (W_cond o3 kr ?_ ?_)
      ·intro hc
       rw [if_pos hc] at hr
       refine W_sr (WO_seg 1 [(2, .bool false)] kr kr ?_)
       refine WO_et rfl (W_ret ?_)
       refine X_block_ret ?_
       refine X_then_ret ?_
       obtain rfl := Option.some.inj hr
       have ho := hBu1 _ rfl
       subst ho
       have hr := hrKu1
       dsimp only at hr
       refine X_then_ret ?_
       refine X_block_ret ?_
       refine X_then_ret ?_
       obtain rfl := Option.some.inj hr
       refine X_ret [.tmp 2] [.bool false] rfl (ResAll.cons (ResAt.tmp kr) ResAll.nil) ?_
       have st := st.tail
       exact ⟨m6, rfl, hm, st⟩
      ·intro hc
       rw [if_neg (not_true hc)] at hr
       refine W_skip ?_
       refine X_block ?_
       refine X_then ?_
       refine W_region ?_
       refine WO_seg 2 [(20, .int .i64 (IntKind.wrap .i64 (s1 + 1)))] kr kr ?_
       refine WO_end rfl ?_
       obtain rfl := Option.some.inj hr
       have hL := hSu1 _ rfl
       exact X_env _ kr (X_round k1 (Nat.lt_succ_self _) ⟨IntKind.wrap .i64 (s1 + 1), m6, hL, rfl, hm, st, r1, r2⟩)
     ·intro K
      clear hrK
      refine WO_seg 4 [(27, .bool (decide ((ByteArray.size x1 : Int) < 1)))] kr kr ?_
      rcases bcases (decide ((ByteArray.size x1 : Int) < 1)) with hc | hc
      ·rw [if_pos hc] at hr
       refine WO_fact (t := 27) (b := true) (decide ((ByteArray.size x1 : Int) < 1)) kr hc ?_
       refine WO_seg 13 [(40, .bool true)] kr kr ?_
       obtain rfl := Option.some.inj hr
       exact WO_env _ kr (K _ _ ⟨m5, rfl, hm, st, r1, r2⟩)
      ·rw [if_neg (not_true hc)] at hr
       refine WO_fact (t := 27) (b := false) (decide ((ByteArray.size x1 : Int) < 1)) kr hc ?_
       refine WO_seg 5 [(32, .bool (decide ((ByteArray.size x1 : Int) > 24)))] kr kr ?_
       rcases bcases (decide ((ByteArray.size x1 : Int) > 24)) with hc | hc
       ·rw [if_pos hc] at hr
        refine WO_fact (t := 32) (b := true) (decide ((ByteArray.size x1 : Int) > 24)) kr hc ?_
        refine WO_seg 8 [(40, .bool true)] kr kr ?_
        obtain rfl := Option.some.inj hr
        exact WO_env _ kr (K _ _ ⟨m5, rfl, hm, st, r1, r2⟩)
       ·rw [if_neg (not_true hc)] at hr
        refine WO_fact (t := 32) (b := false) (decide ((ByteArray.size x1 : Int) > 24)) kr hc ?_
        refine WO_seg 2 [(33, .string x1), (34, .map q1)] kr kr ?_
        refine WO_one rfl (One_buildSlice (d := 35) (t := 22) (e := 3) (len := 4) (parts := #[(0, (.const (.int .i64 1))), (1, (.const (.int .i64 2))), (2, (.const (.int .i64 3))), (3, (.const (.int .i64 4)))]) (cInt .i64) (xs := [1, 2, 3, 4]) [.int .i64 1, .int .i64 2, .int .i64 3, .int .i64 4] kr rfl (fun _ => buildCells_run kr _) rfl rfl st ⟨[.int .i64 1], _, rfl, rfl, ⟨[.int .i64 2], _, rfl, rfl, ⟨[.int .i64 3], _, rfl, rfl, ⟨[.int .i64 4], _, rfl, rfl, rfl⟩⟩⟩⟩ ?_)
        clear st
        intro b2 m7 w7 hle3 st r3
        have hm := Mem.le_trans hm hle3
        have r1 := r1.mono hle3
        have r2 := r2.mono hle3
        have st := st.front1
        replace ⟨y3, hx4, hr⟩ := bindS hr
        refine WO_one rfl (One_fn 36 81 #[.string x1, .int .i64 0, .map q1, .slice (some ⟨b2, 0, none⟩) (List.length ([1, 2, 3, 4])) 4] kr rfl ?_)
        refine (lexer_span_ok st r2 r3 hx4).mono ?_
        clear st
        rintro _ w8 ⟨m8, rfl, hle4, st⟩
        refine ⟨_, rfl, ?_⟩
        have hm := Mem.le_trans hm hle4
        have r1 := r1.mono hle4
        have r3 := r3.mono hle4
        have r2 := r2.mono hle4
        refine WO_seg 4 [(40, .bool (y3 != (ByteArray.size x1 : Int)))] kr kr ?_
        obtain rfl := Option.some.inj hr
        have st := st.front1
        have st := st.tail
        exact WO_env _ kr (K _ _ ⟨m8, rfl, hm, st, r1, r2⟩)
    ·intro hc
     rw [if_neg (not_true hc)] at hr
     refine W_exit ?_
     refine X_then_exit ?_
     obtain rfl := Option.some.inj hr
     have ho := hBu1 _ rfl
     refine X_then_exit ?_
     exact X_env _ kr (K0_u1 _ _ ⟨(), m5, ho, rfl, hm, st, r2⟩)
 ·intro K
  clear hrK
  refine WO_seg 4 [(12, .bool (decide ((ByteArray.size p0 : Int) > 80)))] kr kr ?_
  rcases bcases (decide ((ByteArray.size p0 : Int) > 80)) with hc | hc
  ·rw [if_pos hc] at hr
   refine WO_fact (t := 12) (b := true) (decide ((ByteArray.size p0 : Int) > 80)) kr hc ?_
   refine WO_seg 4 [(16, .bool true)] kr kr ?_
   obtain rfl := Option.some.inj hr
   exact WO_env _ kr (K _ _ ⟨m1, rfl, hm, st, r1⟩)
  ·rw [if_neg (not_true hc)] at hr
   refine WO_fact (t := 12) (b := false) (decide ((ByteArray.size p0 : Int) > 80)) kr hc ?_
   refine WO_seg 4 [(16, .bool (decide ((List.length y1 : Int) > 8)))] kr kr ?_
   obtain rfl := Option.some.inj hr
   exact WO_env _ kr (K _ _ ⟨m1, rfl, hm, st, r1⟩)
def fact_Check (N : Nat) (p0 : Int × ByteArray × ByteArray) : Option (Bool) :=
 (if (p0.1 == 1) = true then (some (p0.1 == 1)) else (some (p0.1 == 2)) : Option (Bool)).bind fun o1 => if o1 = true then (((lexer_Name N p0.2.1).bind fun y1 => if y1 = true then ((lexer_Name N p0.2.2).bind fun y2 => some y2) else (some false) : Option (Bool)).bind fun o2 => some o2) else ((if (p0.1 == 3) = true then (some (p0.1 == 3)) else (some (p0.1 == 4)) : Option (Bool)).bind fun o3 => if o3 = true then (((lexer_Path N p0.2.1).bind fun y3 => if y3 = true then (some (p0.2.2.toList == (⟨#[]⟩ : ByteArray).toList)) else (some false) : Option (Bool)).bind fun o4 => some o4) else ((if (p0.1 == 5) = true then (some (p0.1 == 5)) else (if (p0.1 == 6) = true then (some (p0.1 == 6)) else (some (p0.1 == 7))) : Option (Bool)).bind fun o5 => if o5 = true then (((lexer_Name N p0.2.1).bind fun y4 => if y4 = true then (some (p0.2.2.toList == (⟨#[]⟩ : ByteArray).toList)) else (some false) : Option (Bool)).bind fun o6 => some o6) else (some false)))
set_option maxHeartbeats 4000000 in
set_option maxRecDepth 100000 in
theorem fact_Check_ok {N : Nat} {m : Mem} {own : List Piece} {w : World} {p0 : Int × ByteArray × ByteArray} {r : Bool} (st : St m (own) w) (hr : fact_Check N p0 = some r) : Calls Tryd.prog 40 #[.agg #[.int .i64 p0.1, .string p0.2.1, .string p0.2.2]] w fun e w' => ∃ (m' : Mem), e = .returned (.bool r) ∧ m.le m' ∧ St m' (own) w' := by
 unfold fact_Check at hr
 have hm := m.le_refl
 refine W_calls Tryd.func40 rfl Tryd.ntmps40 [(0, .agg #[.int .i64 p0.1, .string p0.2.1, .string p0.2.2])] kr rfl ?_
 refine W_sr (WO_one rfl (One_box (d := 1) (e := 29) (x := (.tmp 0)) (.agg #[.int .i64 p0.1, .string p0.2.1, .string p0.2.2]) kr rfl kr st ?_))
 clear st
 intro b1 m1 w1 hle1 st hb1
 have hm := Mem.le_trans hm hle1
 refine WO_seg 1 [] kr kr ?_
 refine WO_et rfl (W_seq ?_)
 refine W_sr (WO_seg 1 [(3, .pointer (some ⟨b1, 0, none⟩))] kr kr ?_)
 refine WO_one rfl (One_load_row (d := 4) (t := 3) (x := (.tmp 3)) (.int .i64 p0.1) kr rfl (ev (.pointer (some ⟨b1, 0, none⟩))) st hb1 kr ?_)
 refine WO_et rfl (W_block ?_)
 refine W_seq ?_
 refine W_sr (WO_seg 2 [(5, .bool (p0.1 == 1))] kr kr ?_)
 refine WO_et rfl ?_
 replace ⟨o1, hr, hrKu1⟩ := bindS hr
 refine W_cut .normal (fun L' w' => ∃ (m2 : Mem), L' = [(1, .pointer (some ⟨b1, 0, none⟩)), (4, .int .i64 p0.1), (5, .bool o1)] ∧ m.le m2 ∧ St m2 (own) w' ∧ MRow m2 b1 0 [.int .i64 p0.1, .string p0.2.1, .string p0.2.2]) ?_ ?_
 ·clear hr st
  have hr := hrKu1
  clear hrKu1
  rintro _ w2 ⟨m2, rfl, hm, st, hb1⟩
  refine X_then ?_
  refine W_cond o1 kr ?_ ?_
  ·intro hc
   rw [if_pos hc] at hr
   refine W_sr ?_
   replace ⟨o2, hr, hrK⟩ := bindS hr
   refine WO_cut (j := 9) (fun L' w' => ∃ (m3 : Mem), L' = [(2, .bool o2)] ∧ m.le m3 ∧ St m3 (own) w') ?_ ?_
   ·clear hr st
    have hr := hrK
    clear hrK
    rintro _ w3 ⟨m3, rfl, hm, st⟩
    refine WO_et rfl (W_ret ?_)
    refine X_block_ret ?_
    refine X_then_ret ?_
    obtain rfl := Option.some.inj hr
    refine X_ret [.tmp 2] [.bool o2] rfl (ResAll.cons (ResAt.tmp kr) ResAll.nil) ?_
    exact ⟨m3, rfl, hm, st⟩
   ·intro K
    clear hrK
    refine WO_seg 1 [(8, .pointer (some ⟨b1, 1, none⟩))] kr kr ?_
    refine WO_one rfl (One_load_row (d := 9) (t := 9) (x := (.tmp 8)) (.string p0.2.1) kr rfl (ev (.pointer (some ⟨b1, 1, none⟩))) st (hb1.drop 1) kr ?_)
    replace ⟨y1, hx1, hr⟩ := bindS hr
    refine WO_one rfl (One_fn 10 54 #[.string p0.2.1] kr rfl ?_)
    refine (lexer_Name_ok st hx1).mono ?_
    clear st
    rintro _ w4 ⟨m4, rfl, hle2, st⟩
    refine ⟨_, rfl, ?_⟩
    have hm := Mem.le_trans hm hle2
    have hb1 := hb1.mono hle2
    refine WO_seg 1 [(11, .bool y1)] kr kr ?_
    rcases bcases y1 with hc | hc
    ·rw [if_pos hc] at hr
     refine WO_fact (t := 11) (b := true) y1 kr hc ?_
     refine WO_seg 1 [(12, .pointer (some ⟨b1, 2, none⟩))] kr kr ?_
     refine WO_one rfl (One_load_row (d := 13) (t := 9) (x := (.tmp 12)) (.string p0.2.2) kr rfl (ev (.pointer (some ⟨b1, 2, none⟩))) st (hb1.drop 2) kr ?_)
     replace ⟨y2, hx2, hr⟩ := bindS hr
     refine WO_one rfl (One_fn 14 54 #[.string p0.2.2] kr rfl ?_)
     refine (lexer_Name_ok st hx2).mono ?_
     clear st
     rintro _ w5 ⟨m5, rfl, hle3, st⟩
     refine ⟨_, rfl, ?_⟩
     have hm := Mem.le_trans hm hle3
     have hb1 := hb1.mono hle3
     refine WO_seg 2 [(2, .bool y2)] kr kr ?_
     obtain rfl := Option.some.inj hr
     exact WO_env _ kr (K _ _ ⟨m5, rfl, hm, st⟩)
    ·rw [if_neg (not_true hc)] at hr
     refine WO_fact (t := 11) (b := false) y1 kr hc ?_
     refine WO_seg 5 [(2, .bool false)] kr kr ?_
     obtain rfl := Option.some.inj hr
     exact WO_env _ kr (K _ _ ⟨m4, rfl, hm, st⟩)
  ·intro hc
   rw [if_neg (not_true hc)] at hr
   refine W_seq ?_
   refine W_sr (WO_seg 2 [(16, .bool (p0.1 == 3))] kr kr ?_)
   refine WO_et rfl ?_
   replace ⟨o3, hr, hrKu3⟩ := bindS hr
   refine W_cut .normal (fun L' w' => ∃ (m6 : Mem), L' = [(1, .pointer (some ⟨b1, 0, none⟩)), (4, .int .i64 p0.1), (16, .bool o3)] ∧ m.le m6 ∧ St m6 (own) w' ∧ MRow m6 b1 0 [.int .i64 p0.1, .string p0.2.1, .string p0.2.2]) ?_ ?_
   ·clear hr st
    have hr := hrKu3
    clear hrKu3
    rintro _ w6 ⟨m6, rfl, hm, st, hb1⟩
    refine X_then ?_
    refine W_cond o3 kr ?_ ?_
    ·intro hc
     rw [if_pos hc] at hr
     refine W_sr ?_
     replace ⟨o4, hr, hrK⟩ := bindS hr
     refine WO_cut (j := 9) (fun L' w' => ∃ (m7 : Mem), L' = [(2, .bool o4)] ∧ m.le m7 ∧ St m7 (own) w') ?_ ?_
     ·clear hr st
      have hr := hrK
      clear hrK
      rintro _ w7 ⟨m7, rfl, hm, st⟩
      refine WO_et rfl (W_ret ?_)
      refine X_block_ret ?_
      refine X_then_ret ?_
      obtain rfl := Option.some.inj hr
      refine X_ret [.tmp 2] [.bool o4] rfl (ResAll.cons (ResAt.tmp kr) ResAll.nil) ?_
      exact ⟨m7, rfl, hm, st⟩
     ·intro K
      clear hrK
      refine WO_seg 1 [(19, .pointer (some ⟨b1, 1, none⟩))] kr kr ?_
      refine WO_one rfl (One_load_row (d := 20) (t := 9) (x := (.tmp 19)) (.string p0.2.1) kr rfl (ev (.pointer (some ⟨b1, 1, none⟩))) st (hb1.drop 1) kr ?_)
      replace ⟨y3, hx3, hr⟩ := bindS hr
      refine WO_one rfl (One_fn 21 52 #[.string p0.2.1] kr rfl ?_)
      refine (lexer_Path_ok st hx3).mono ?_
      clear st
      rintro _ w8 ⟨m8, rfl, hle4, st⟩
      refine ⟨_, rfl, ?_⟩
      have hm := Mem.le_trans hm hle4
      have hb1 := hb1.mono hle4
      refine WO_seg 1 [(22, .bool y3)] kr kr ?_
      rcases bcases y3 with hc | hc
      ·rw [if_pos hc] at hr
       refine WO_fact (t := 22) (b := true) y3 kr hc ?_
       refine WO_seg 1 [(23, .pointer (some ⟨b1, 2, none⟩))] kr kr ?_
       refine WO_one rfl (One_load_row (d := 24) (t := 9) (x := (.tmp 23)) (.string p0.2.2) kr rfl (ev (.pointer (some ⟨b1, 2, none⟩))) st (hb1.drop 2) kr ?_)
       refine WO_seg 3 [(2, .bool (p0.2.2.toList == (⟨#[]⟩ : ByteArray).toList))] kr kr ?_
       obtain rfl := Option.some.inj hr
       exact WO_env _ kr (K _ _ ⟨m8, rfl, hm, st⟩)
      ·rw [if_neg (not_true hc)] at hr
       refine WO_fact (t := 22) (b := false) y3 kr hc ?_
       refine WO_seg 5 [(2, .bool false)] kr kr ?_
       obtain rfl := Option.some.inj hr
       exact WO_env _ kr (K _ _ ⟨m8, rfl, hm, st⟩)
    ·intro hc
     rw [if_neg (not_true hc)] at hr
     refine W_seq ?_
     refine W_sr (WO_seg 2 [(27, .bool (p0.1 == 5))] kr kr ?_)
     refine WO_et rfl ?_
     replace ⟨o5, hr, hrKu5⟩ := bindS hr
     refine W_cut .normal (fun L' w' => ∃ (m9 : Mem), L' = [(1, .pointer (some ⟨b1, 0, none⟩)), (27, .bool o5)] ∧ m.le m9 ∧ St m9 (own) w' ∧ MRow m9 b1 0 [.int .i64 p0.1, .string p0.2.1, .string p0.2.2]) ?_ ?_
     ·clear hr st
      have hr := hrKu5
      clear hrKu5
      rintro _ w9 ⟨m9, rfl, hm, st, hb1⟩
      refine X_then ?_
      refine W_cond o5 kr ?_ ?_
      ·intro hc
       rw [if_pos hc] at hr
       refine W_sr ?_
       replace ⟨o6, hr, hrK⟩ := bindS hr
       refine WO_cut (j := 9) (fun L' w' => ∃ (m10 : Mem), L' = [(2, .bool o6)] ∧ m.le m10 ∧ St m10 (own) w') ?_ ?_
       ·clear hr st
        have hr := hrK
        clear hrK
        rintro _ w10 ⟨m10, rfl, hm, st⟩
        refine WO_et rfl (W_ret ?_)
        refine X_block_ret ?_
        refine X_then_ret ?_
        obtain rfl := Option.some.inj hr
        refine X_ret [.tmp 2] [.bool o6] rfl (ResAll.cons (ResAt.tmp kr) ResAll.nil) ?_
        exact ⟨m10, rfl, hm, st⟩
       ·intro K
        clear hrK
        refine WO_seg 1 [(31, .pointer (some ⟨b1, 1, none⟩))] kr kr ?_
        refine WO_one rfl (One_load_row (d := 32) (t := 9) (x := (.tmp 31)) (.string p0.2.1) kr rfl (ev (.pointer (some ⟨b1, 1, none⟩))) st (hb1.drop 1) kr ?_)
        replace ⟨y4, hx4, hr⟩ := bindS hr
        refine WO_one rfl (One_fn 33 54 #[.string p0.2.1] kr rfl ?_)
        refine (lexer_Name_ok st hx4).mono ?_
        clear st
        rintro _ w11 ⟨m11, rfl, hle5, st⟩
        refine ⟨_, rfl, ?_⟩
        have hm := Mem.le_trans hm hle5
        have hb1 := hb1.mono hle5
        refine WO_seg 1 [(34, .bool y4)] kr kr ?_
        rcases bcases y4 with hc | hc
        ·rw [if_pos hc] at hr
         refine WO_fact (t := 34) (b := true) y4 kr hc ?_
         refine WO_seg 1 [(35, .pointer (some ⟨b1, 2, none⟩))] kr kr ?_
         refine WO_one rfl (One_load_row (d := 36) (t := 9) (x := (.tmp 35)) (.string p0.2.2) kr rfl (ev (.pointer (some ⟨b1, 2, none⟩))) st (hb1.drop 2) kr ?_)
         refine WO_seg 3 [(2, .bool (p0.2.2.toList == (⟨#[]⟩ : ByteArray).toList))] kr kr ?_
         obtain rfl := Option.some.inj hr
         exact WO_env _ kr (K _ _ ⟨m11, rfl, hm, st⟩)
        ·rw [if_neg (not_true hc)] at hr
         refine WO_fact (t := 34) (b := false) y4 kr hc ?_
         refine WO_seg 5 [(2, .bool false)] kr kr ?_
         obtain rfl := Option.some.inj hr
         exact WO_env _ kr (K _ _ ⟨m11, rfl, hm, st⟩)
      ·intro hc
       rw [if_neg (not_true hc)] at hr
       refine W_skip ?_
       refine X_block ?_
       refine X_then ?_
       refine W_sr (WO_seg 1 [(2, .bool false)] kr kr ?_)
       refine WO_et rfl (W_ret ?_)
       obtain rfl := Option.some.inj hr
       refine X_ret [.tmp 2] [.bool false] rfl (ResAll.cons (ResAt.tmp kr) ResAll.nil) ?_
       exact ⟨m9, rfl, hm, st⟩
     ·intro Ku5
      clear hrKu5
      refine W_cond (p0.1 == 5) kr ?_ ?_
      ·intro hc
       rw [if_pos hc] at hr
       refine W_skip ?_
       obtain rfl := Option.some.inj hr
       exact X_env _ kr (Ku5 _ _ ⟨m6, rfl, hm, st, hb1⟩)
      ·intro hc
       rw [if_neg (not_true hc)] at hr
       refine W_sr (WO_seg 2 [(27, .bool (p0.1 == 6))] kr kr ?_)
       refine WO_et rfl (W_cond (p0.1 == 6) kr ?_ ?_)
       ·intro hc
        rw [if_pos hc] at hr
        refine W_skip ?_
        obtain rfl := Option.some.inj hr
        exact X_env _ kr (Ku5 _ _ ⟨m6, rfl, hm, st, hb1⟩)
       ·intro hc
        rw [if_neg (not_true hc)] at hr
        refine W_region ?_
        refine WO_seg 2 [(27, .bool (p0.1 == 7))] kr kr ?_
        refine WO_end rfl ?_
        obtain rfl := Option.some.inj hr
        exact X_env _ kr (Ku5 _ _ ⟨m6, rfl, hm, st, hb1⟩)
   ·intro Ku3
    clear hrKu3
    refine W_cond (p0.1 == 3) kr ?_ ?_
    ·intro hc
     rw [if_pos hc] at hr
     refine W_skip ?_
     obtain rfl := Option.some.inj hr
     exact X_env _ kr (Ku3 _ _ ⟨m2, rfl, hm, st, hb1⟩)
    ·intro hc
     rw [if_neg (not_true hc)] at hr
     refine W_region ?_
     refine WO_seg 2 [(16, .bool (p0.1 == 4))] kr kr ?_
     refine WO_end rfl ?_
     obtain rfl := Option.some.inj hr
     exact X_env _ kr (Ku3 _ _ ⟨m2, rfl, hm, st, hb1⟩)
 ·intro Ku1
  clear hrKu1
  refine W_cond (p0.1 == 1) kr ?_ ?_
  ·intro hc
   rw [if_pos hc] at hr
   refine W_skip ?_
   obtain rfl := Option.some.inj hr
   exact X_env _ kr (Ku1 _ _ ⟨m1, rfl, hm, st, hb1⟩)
  ·intro hc
   rw [if_neg (not_true hc)] at hr
   refine W_region ?_
   refine WO_seg 2 [(5, .bool (p0.1 == 2))] kr kr ?_
   refine WO_end rfl ?_
   obtain rfl := Option.some.inj hr
   exact X_env _ kr (Ku1 _ _ ⟨m1, rfl, hm, st, hb1⟩)
def index_well_1 (N : Nat) (p0 : (Int × ByteArray × ByteArray) × Int) : Option (Bool) :=
 (fact_Check N (p0.1.1, p0.1.2.1, p0.1.2.2)).bind fun y1 => some (!y1)
set_option maxHeartbeats 4000000 in
set_option maxRecDepth 100000 in
theorem index_well_1_ok {N : Nat} {m : Mem} {own : List Piece} {w : World} {p0 : (Int × ByteArray × ByteArray) × Int} {r : Bool} (st : St m (own) w) (hr : index_well_1 N p0 = some r) : Calls Tryd.prog 87 #[.agg #[.int .i64 p0.1.1, .string p0.1.2.1, .string p0.1.2.2, .int .i64 p0.2]] w fun e w' => ∃ (m' : Mem), e = .returned (.bool r) ∧ m.le m' ∧ St m' (own) w' := by
 unfold index_well_1 at hr
 have hm := m.le_refl
 refine W_calls Tryd.func87 rfl Tryd.ntmps87 [(0, .agg #[.int .i64 p0.1.1, .string p0.1.2.1, .string p0.1.2.2, .int .i64 p0.2])] kr rfl ?_
 refine W_sr (WO_one rfl (One_box (d := 1) (e := 102) (x := (.tmp 0)) (.agg #[.int .i64 p0.1.1, .string p0.1.2.1, .string p0.1.2.2, .int .i64 p0.2]) kr rfl kr st ?_))
 clear st
 intro b1 m1 w1 hle1 st hb1
 have hm := Mem.le_trans hm hle1
 refine WO_seg 1 [] kr kr ?_
 refine WO_et rfl (W_sr ?_)
 refine WO_seg 1 [(3, .pointer (some ⟨b1, 0, none⟩))] kr kr ?_
 refine WO_one rfl (One_load_row (d := 4) (t := 29) (x := (.tmp 3)) (.agg #[.int .i64 p0.1.1, .string p0.1.2.1, .string p0.1.2.2]) kr rfl (ev (.pointer (some ⟨b1, 0, none⟩))) st hb1 kr ?_)
 replace ⟨y1, hx1, hr⟩ := bindS hr
 refine WO_one rfl (One_fn 5 40 #[.agg #[.int .i64 p0.1.1, .string p0.1.2.1, .string p0.1.2.2]] kr rfl ?_)
 refine (fact_Check_ok st hx1).mono ?_
 clear st
 rintro _ w2 ⟨m2, rfl, hle2, st⟩
 refine ⟨_, rfl, ?_⟩
 have hm := Mem.le_trans hm hle2
 have hb1 := hb1.mono hle2
 refine WO_seg 2 [(2, .bool (!y1))] kr kr ?_
 refine WO_et rfl (W_ret ?_)
 obtain rfl := Option.some.inj hr
 refine X_ret [.tmp 2] [.bool (!y1)] rfl (ResAll.cons (ResAt.tmp kr) ResAll.nil) ?_
 exact ⟨m2, rfl, hm, st⟩
end Go.Proofs.YtgggihpbhmbjaaaDoor
