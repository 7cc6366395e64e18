/- MADE BY gen.py: plain functions and the proofs that the Go functions compute them. No condition but those of each theorem. -/
import Derived.Test.YtgggihpbhmbjaaaGreatDoorProg
import Derived.Test.YtgggihpbhmbjaaaGreatDoorViewy5
import Derived.Test.YtgggihpbhmbjaaaGreatDoorMapDy5
import Derived.Test.YtgggihpbhmbjaaaGreatDoorLiny5
namespace Go.Proofs.YtgggihpbhmbjaaaGreatDoor
open Go Go.Dc
def testgatemake_sources (N : Nat) : Option (List ByteArray) :=
 some ([(⟨#[97, 46, 115, 114, 99]⟩ : ByteArray), (⟨#[98, 46, 115, 114, 99]⟩ : ByteArray), (⟨#[100, 47, 99, 46, 115, 114, 99]⟩ : ByteArray), (⟨#[120, 46, 115, 114, 99]⟩ : ByteArray)])
set_option maxHeartbeats 4000000 in
set_option maxRecDepth 100000 in
theorem testgatemake_sources_ok {N : Nat} {m : Mem} {own : List Piece} {w : World} {r : List ByteArray} (st : St m (own) w) (hr : testgatemake_sources N = some r) : Calls Tryz.prog 54 #[] w fun e w' => ∃ (ra1 : Option Addr) (rc1 : Nat) (m' : Mem), e = .returned (.slice ra1 (List.length r) rc1) ∧ m.le m' ∧ St m' (.room ra1 (List.length r) rc1 9 1 :: own) w' ∧ RepS cStr m' ra1 rc1 r := by
 unfold testgatemake_sources at hr
 have hm := m.le_refl
 refine W_calls Tryz.func54 rfl Tryz.ntmps54 [] kr rfl ?_
 refine W_sr (WO_seg 1 [] kr kr ?_)
 refine WO_et rfl (W_sr ?_)
 refine WO_one rfl (One_buildSlice (d := 1) (t := 33) (e := 9) (len := 4) (parts := #[(0, (.const (.string (⟨#[97, 46, 115, 114, 99]⟩ : ByteArray)))), (1, (.const (.string (⟨#[98, 46, 115, 114, 99]⟩ : ByteArray)))), (2, (.const (.string (⟨#[100, 47, 99, 46, 115, 114, 99]⟩ : ByteArray)))), (3, (.const (.string (⟨#[120, 46, 115, 114, 99]⟩ : ByteArray))))]) cStr (xs := [(⟨#[97, 46, 115, 114, 99]⟩ : ByteArray), (⟨#[98, 46, 115, 114, 99]⟩ : ByteArray), (⟨#[100, 47, 99, 46, 115, 114, 99]⟩ : ByteArray), (⟨#[120, 46, 115, 114, 99]⟩ : ByteArray)]) [.string (⟨#[97, 46, 115, 114, 99]⟩ : ByteArray), .string (⟨#[98, 46, 115, 114, 99]⟩ : ByteArray), .string (⟨#[100, 47, 99, 46, 115, 114, 99]⟩ : ByteArray), .string (⟨#[120, 46, 115, 114, 99]⟩ : ByteArray)] kr rfl (fun _ => buildCells_run kr _) rfl rfl st ⟨[.string (⟨#[97, 46, 115, 114, 99]⟩ : ByteArray)], _, rfl, rfl, ⟨[.string (⟨#[98, 46, 115, 114, 99]⟩ : ByteArray)], _, rfl, rfl, ⟨[.string (⟨#[100, 47, 99, 46, 115, 114, 99]⟩ : ByteArray)], _, rfl, rfl, ⟨[.string (⟨#[120, 46, 115, 114, 99]⟩ : ByteArray)], _, rfl, rfl, rfl⟩⟩⟩⟩ ?_)
 clear st
 intro b1 m1 w1 hle1 st r1
 have hm := Mem.le_trans hm hle1
 refine WO_seg 1 [(0, .slice (some ⟨b1, 0, none⟩) (List.length ([(⟨#[97, 46, 115, 114, 99]⟩ : ByteArray), (⟨#[98, 46, 115, 114, 99]⟩ : ByteArray), (⟨#[100, 47, 99, 46, 115, 114, 99]⟩ : ByteArray), (⟨#[120, 46, 115, 114, 99]⟩ : ByteArray)])) 4)] kr kr ?_
 refine WO_et rfl (W_ret ?_)
 obtain rfl := Option.some.inj hr
 refine X_ret [.tmp 0] [.slice (some ⟨b1, 0, none⟩) (List.length ([(⟨#[97, 46, 115, 114, 99]⟩ : ByteArray), (⟨#[98, 46, 115, 114, 99]⟩ : ByteArray), (⟨#[100, 47, 99, 46, 115, 114, 99]⟩ : ByteArray), (⟨#[120, 46, 115, 114, 99]⟩ : ByteArray)])) 4] rfl (ResAll.cons (ResAt.tmp kr) ResAll.nil) ?_
 exact ⟨(some ⟨b1, 0, none⟩), 4, m1, rfl, hm, st, r1⟩
def testgatemake_Fold (N : Nat) (p0 : Int) (p1 : Int) : Option (Int) :=
 if (decide (p1 ≤ 1)) = true then (some 0) else ((remS p0 p1).bind fun i1 => (if (decide (i1 < 0)) = true then (some (IntKind.wrap .i64 (i1 + p1))) else (some i1) : Option (Int)).bind fun o1 => some o1)
set_option maxHeartbeats 4000000 in
set_option maxRecDepth 100000 in
theorem testgatemake_Fold_ok {N : Nat} {m : Mem} {own : List Piece} {w : World} {p0 : Int} {p1 : Int} {r : Int} (st : St m (own) w) (hr : testgatemake_Fold N p0 p1 = some r) : Calls Tryz.prog 62 #[.int .i64 p0, .int .i64 p1] w fun e w' => ∃ (m' : Mem), e = .returned (.int .i64 r) ∧ m.le m' ∧ St m' (own) w' := by
 unfold testgatemake_Fold at hr
 have hm := m.le_refl
 refine W_calls Tryz.func62 rfl Tryz.ntmps62 [(0, .int .i64 p0), (1, .int .i64 p1)] kr rfl ?_
 refine W_sr (WO_seg 1 [] kr kr ?_)
 refine WO_et rfl (W_seq ?_)
 refine W_sr (WO_seg 2 [(6, .bool (decide (p1 ≤ 1)))] kr kr ?_)
 refine WO_et rfl (W_cond (decide (p1 ≤ 1)) kr ?_ ?_)
 ·intro hc
  rw [if_pos hc] at hr
  refine W_sr (WO_seg 1 [(4, .int .i64 0)] kr kr ?_)
  refine WO_et rfl (W_ret ?_)
  refine X_then_ret ?_
  obtain rfl := Option.some.inj hr
  refine X_ret [.tmp 4] [.int .i64 0] rfl (ResAll.cons (ResAt.tmp kr) ResAll.nil) ?_
  exact ⟨m, rfl, hm, st⟩
 ·intro hc
  rw [if_neg (not_true hc)] at hr
  refine W_skip ?_
  refine X_then ?_
  refine W_sr (WO_seg 2 [(7, .int .i64 p0), (8, .int .i64 p1)] kr kr ?_)
  replace ⟨i1, hx1, hr⟩ := bindS hr
  refine WO_one rfl (One_rem (d := 9) (t := 3) (t2 := 3) (x := (.tmp 7)) (y := (.tmp 8)) kr rfl (ev (.int .i64 p0)) (ev (.int .i64 p1)) hx1 ?_)
  refine WO_seg 1 [(0, .int .i64 i1)] kr kr ?_
  refine WO_et rfl (W_seq ?_)
  refine W_sr (WO_seg 2 [(11, .bool (decide (i1 < 0)))] kr kr ?_)
  refine WO_et rfl ?_
  replace ⟨o1, hr, hrKu1⟩ := bindS hr
  refine W_cut .normal (fun L' w' => ∃ (m1 : Mem), L' = [(0, .int .i64 o1)] ∧ m.le m1 ∧ St m1 (own) w') ?_ ?_
  ·clear hr st
   have hr := hrKu1
   clear hrKu1
   rintro _ w1 ⟨m1, rfl, hm, st⟩
   refine X_then ?_
   refine W_sr (WO_seg 2 [(4, .int .i64 o1)] kr kr ?_)
   refine WO_et rfl (W_ret ?_)
   obtain rfl := Option.some.inj hr
   refine X_ret [.tmp 4] [.int .i64 o1] rfl (ResAll.cons (ResAt.tmp kr) ResAll.nil) ?_
   exact ⟨m1, rfl, hm, st⟩
  ·intro Ku1
   clear hrKu1
   refine W_cond (decide (i1 < 0)) kr ?_ ?_
   ·intro hc
    rw [if_pos hc] at hr
    refine W_region ?_
    refine WO_seg 4 [(0, .int .i64 (IntKind.wrap .i64 (i1 + p1)))] kr kr ?_
    refine WO_end rfl ?_
    obtain rfl := Option.some.inj hr
    exact X_env _ kr (Ku1 _ _ ⟨m, rfl, hm, st⟩)
   ·intro hc
    rw [if_neg (not_true hc)] at hr
    refine W_skip ?_
    obtain rfl := Option.some.inj hr
    exact X_env _ kr (Ku1 _ _ ⟨m, rfl, hm, st⟩)
def testgatemake_Tape_Next (N : Nat) (p0 : List Int × Int) (p1 : Int) : Option ((List Int × Int) × Int) :=
 (if (decide (p0.2 < (List.length p0.1 : Int))) = true then ((idx p0.1 p0.2).bind fun x1 => some x1) else (some (Int.tmod (IntKind.wrap .i64 (p0.2 * 7)) 11)) : Option (Int)).bind fun o1 => (testgatemake_Fold N o1 p1).bind fun y1 => some ((p0.1, IntKind.wrap .i64 (p0.2 + 1)), y1)
set_option maxHeartbeats 4000000 in
set_option maxRecDepth 100000 in
theorem testgatemake_Tape_Next_ok {N : Nat} {m : Mem} {own : List Piece} {w : World} {p0 : List Int × Int} {p1 : Int} {bp0 : Nat} {a1 : Option Addr} {c1 : Nat} {r : (List Int × Int) × Int} (st : St m (.blk bp0 (.cells #[.slice a1 (List.length p0.1) c1, .int .i64 p0.2] 28 (0, 0)) :: own) w) (r1 : RepS (cInt .i64) m a1 c1 p0.1) (hr : testgatemake_Tape_Next N p0 p1 = some r) : Calls Tryz.prog 14 #[.pointer (some ⟨bp0, 0, none⟩), .int .i64 p1] w fun e w' => ∃ (ra1 : Option Addr) (rc1 : Nat) (m' : Mem), e = .returned (.int .i64 r.2) ∧ m.le m' ∧ St m' (.blk bp0 (.cells #[.slice ra1 (List.length r.1.1) rc1, .int .i64 r.1.2] 28 (0, 0)) :: own) w' ∧ RepS (cInt .i64) m' ra1 rc1 r.1.1 := by
 unfold testgatemake_Tape_Next at hr
 have hm := m.le_refl
 refine W_calls Tryz.func14 rfl Tryz.ntmps14 [(0, .pointer (some ⟨bp0, 0, none⟩)), (1, .int .i64 p1)] kr rfl ?_
 refine W_sr (WO_seg 1 [] kr kr ?_)
 refine WO_et rfl (W_sr ?_)
 refine WO_seg 3 [(8, .pointer (some ⟨bp0, 1, none⟩))] kr kr ?_
 refine WO_one rfl (One_load_own (d := 9) (t := 3) (x := (.tmp 8)) (.int .i64 p0.2) kr rfl (ev (.pointer (some ⟨bp0, 1, none⟩))) st.head kr ?_)
 refine WO_seg 3 [(5, .int .i64 (Int.tmod (IntKind.wrap .i64 (p0.2 * 7)) 11))] kr kr ?_
 refine WO_et rfl (W_seq ?_)
 refine W_seq ?_
 refine W_draw [(10, fun w' => Inv m w' ∧ Piece.holds m w' (.blk bp0 (.cells #[.slice a1 (List.length p0.1) c1, .int .i64 p0.2] 28 (0, 0))) ∧ True)] kr st ?_
 clear st
 intro w1 _ st
 have hmS1 := m.le_refl
 refine ⟨⟨.inr ⟨Inv.anti st.inv hmS1, Piece.holds_anti st.head hmS1, trivial⟩, trivial⟩, ?_⟩
 refine WA_pure 0 12 (.pointer (some ⟨bp0, 0, none⟩)) kr rfl kr (.head _) (QP_then (QP_then QP_body)) ?_
 refine WA_pure 1 13 (.pointer (some ⟨bp0, 0, none⟩)) kr rfl kr (.head _) (QP_then (QP_then QP_body)) ?_
 refine WA_pure 2 14 (.pointer (some ⟨bp0, 1, none⟩)) kr rfl kr (.head _) (QP_then (QP_then QP_body)) ?_
 refine WA_load_own (t := 3) (x := (.tmp 14)) 3 15 (.int .i64 p0.2) kr rfl kr (.head _) (QP_then (QP_then QP_body)) (fun _ h => h.2.1) (ev (.pointer (some ⟨bp0, 1, none⟩))) kr ?_
 refine WA_pure 4 16 (.pointer (some ⟨bp0, 0, none⟩)) kr rfl kr (.head _) (QP_then (QP_then QP_body)) ?_
 refine WA_pure 5 17 (.pointer (some ⟨bp0, 0, none⟩)) kr rfl kr (.head _) (QP_then (QP_then QP_body)) ?_
 refine WA_pure 6 18 (.pointer (some ⟨bp0, 0, none⟩)) kr rfl kr (.head _) (QP_then (QP_then QP_body)) ?_
 refine WA_load_own (t := 22) (x := (.tmp 18)) 7 19 (.slice a1 (List.length p0.1) c1) kr rfl kr (.head _) (QP_then (QP_then QP_body)) (fun _ h => h.2.1) (ev (.pointer (some ⟨bp0, 0, none⟩))) kr ?_
 refine WA_pure 8 20 (.int .i64 (List.length p0.1 : Int)) kr rfl kr (.head _) (QP_then (QP_then QP_body)) ?_
 refine WA_pure 9 21 (.bool (decide (p0.2 < (List.length p0.1 : Int)))) kr rfl kr (.head _) (QP_then (QP_then QP_body)) ?_
 refine WA_done kr ?_
 refine X_then ?_
 replace ⟨o1, hr, hrKu1⟩ := bindS hr
 refine W_cut .normal (fun L' w' => ∃ (m1 : Mem), L' = [(0, .pointer (some ⟨bp0, 0, none⟩)), (1, .int .i64 p1), (5, .int .i64 o1)] ∧ m.le m1 ∧ St m1 (.blk bp0 (.cells #[.slice a1 (List.length p0.1) c1, .int .i64 p0.2] 28 (0, 0)) :: own) w' ∧ RepS (cInt .i64) m1 a1 c1 p0.1) ?_ ?_
 ·clear hr st
  have hr := hrKu1
  clear hrKu1
  rintro _ w2 ⟨m1, rfl, hm, st, r1⟩
  refine X_then ?_
  refine W_sr (WO_seg 3 [(32, .pointer (some ⟨bp0, 0, none⟩)), (34, .pointer (some ⟨bp0, 1, none⟩))] kr kr ?_)
  refine WO_one rfl (One_load_own (d := 35) (t := 3) (x := (.tmp 34)) (.int .i64 p0.2) kr rfl (ev (.pointer (some ⟨bp0, 1, none⟩))) st.head kr ?_)
  refine WO_seg 3 [(36, .int .i64 (IntKind.wrap .i64 (p0.2 + 1))), (38, .pointer (some ⟨bp0, 1, none⟩))] kr kr ?_
  refine WO_one rfl (One_store (t := 3) (x := (.tmp 38)) (y := (.tmp 36)) (v := .int .i64 (IntKind.wrap .i64 (p0.2 + 1))) (c' := #[.slice a1 (List.length p0.1) c1, .int .i64 (IntKind.wrap .i64 (p0.2 + 1))]) kr (ev (.pointer (some ⟨bp0, 1, none⟩))) (ev (.int .i64 (IntKind.wrap .i64 (p0.2 + 1)))) st kr kr ?_)
  clear st
  intro w4 st
  refine WO_et rfl (W_sr ?_)
  refine WO_seg 2 [(39, .int .i64 o1), (40, .int .i64 p1)] kr kr ?_
  replace ⟨y1, hx2, hr⟩ := bindS hr
  refine WO_one rfl (One_fn 41 62 #[.int .i64 o1, .int .i64 p1] kr rfl ?_)
  refine (testgatemake_Fold_ok st hx2).mono ?_
  clear st
  rintro _ w5 ⟨m2, rfl, hle1, st⟩
  refine ⟨_, rfl, ?_⟩
  have hm := Mem.le_trans hm hle1
  have r1 := r1.mono hle1
  refine WO_seg 1 [(4, .int .i64 y1)] kr kr ?_
  refine WO_et rfl (W_ret ?_)
  obtain rfl := Option.some.inj hr
  refine X_ret [.tmp 4] [.int .i64 y1] rfl (ResAll.cons (ResAt.tmp kr) ResAll.nil) ?_
  exact ⟨a1, c1, m2, rfl, hm, st, r1⟩
 ·intro Ku1
  clear hrKu1
  refine W_cond (decide (p0.2 < (List.length p0.1 : Int))) kr ?_ ?_
  ·intro hc
   rw [if_pos hc] at hr
   refine W_draw [(11, fun w' => Inv m w' ∧ Piece.holds m w' (.blk bp0 (.cells #[.slice a1 (List.length p0.1) c1, .int .i64 p0.2] 28 (0, 0))) ∧ True)] kr st ?_
   clear st
   intro w3 _ st
   have hmS2 := m.le_refl
   refine ⟨⟨.inr ⟨Inv.anti st.inv hmS2, Piece.holds_anti st.head hmS2, trivial⟩, trivial⟩, ?_⟩
   refine WA_pure 0 22 (.pointer (some ⟨bp0, 0, none⟩)) kr rfl kr (.head _) (QP_then QP_body) ?_
   refine WA_pure 1 23 (.pointer (some ⟨bp0, 0, none⟩)) kr rfl kr (.head _) (QP_then QP_body) ?_
   refine WA_pure 2 24 (.pointer (some ⟨bp0, 0, none⟩)) kr rfl kr (.head _) (QP_then QP_body) ?_
   refine WA_load_own (t := 22) (x := (.tmp 24)) 3 25 (.slice a1 (List.length p0.1) c1) kr rfl kr (.head _) (QP_then QP_body) (fun _ h => h.2.1) (ev (.pointer (some ⟨bp0, 0, none⟩))) kr ?_
   refine WA_pure 4 26 (.pointer (some ⟨bp0, 0, none⟩)) kr rfl kr (.head _) (QP_then QP_body) ?_
   refine WA_pure 5 27 (.pointer (some ⟨bp0, 0, none⟩)) kr rfl kr (.head _) (QP_then QP_body) ?_
   refine WA_pure 6 28 (.pointer (some ⟨bp0, 1, none⟩)) kr rfl kr (.head _) (QP_then QP_body) ?_
   refine WA_load_own (t := 3) (x := (.tmp 28)) 7 29 (.int .i64 p0.2) kr rfl kr (.head _) (QP_then QP_body) (fun _ h => h.2.1) (ev (.pointer (some ⟨bp0, 1, none⟩))) kr ?_
   replace ⟨x1, hx1, hr⟩ := bindS hr
   refine WA_index (t := 22) (e := 3) (x := (.tmp 25)) (y := (.tmp 29)) 8 30 (cInt .i64) kr rfl kr (.head _) (QP_then QP_body) (ev (.slice a1 (List.length p0.1) c1)) (ev (.int .i64 p0.2)) kr r1 hx1 ?_
   rintro b1 f1 cs1 rfl hq1
   refine WA_load_row (t := 3) (x := (.tmp 30)) 9 31 (.int .i64 x1) kr rfl kr (.head _) (QP_then QP_body) (fun _ h => h.1) (ev (.pointer (some ⟨b1, f1, none⟩))) hq1 kr ?_
   refine WA_pure 10 5 (.int .i64 x1) kr rfl kr (.head _) (QP_then QP_body) ?_
   refine WA_done kr ?_
   obtain rfl := Option.some.inj hr
   exact X_env _ kr (Ku1 _ _ ⟨m, rfl, hm, st, r1⟩)
  ·intro hc
   rw [if_neg (not_true hc)] at hr
   refine W_skip ?_
   obtain rfl := Option.some.inj hr
   exact X_env _ kr (Ku1 _ _ ⟨m, rfl, hm, st, r1⟩)
def testgatemake_Tape_Chance (N : Nat) (p0 : List Int × Int) (p1 : Int) (p2 : Int) : Option ((List Int × Int) × Bool) :=
 (testgatemake_Tape_Next N (p0.1, p0.2) p2).bind fun y1 => some ((y1.1.1, y1.1.2), decide (y1.2 < p1))
set_option maxHeartbeats 4000000 in
set_option maxRecDepth 100000 in
theorem testgatemake_Tape_Chance_ok {N : Nat} {m : Mem} {own : List Piece} {w : World} {p0 : List Int × Int} {p1 : Int} {p2 : Int} {bp0 : Nat} {a1 : Option Addr} {c1 : Nat} {r : (List Int × Int) × Bool} (st : St m (.blk bp0 (.cells #[.slice a1 (List.length p0.1) c1, .int .i64 p0.2] 28 (0, 0)) :: own) w) (r1 : RepS (cInt .i64) m a1 c1 p0.1) (hr : testgatemake_Tape_Chance N p0 p1 p2 = some r) : Calls Tryz.prog 29 #[.pointer (some ⟨bp0, 0, none⟩), .int .i64 p1, .int .i64 p2] w fun e w' => ∃ (ra1 : Option Addr) (rc1 : Nat) (m' : Mem), e = .returned (.bool r.2) ∧ m.le m' ∧ St m' (.blk bp0 (.cells #[.slice ra1 (List.length r.1.1) rc1, .int .i64 r.1.2] 28 (0, 0)) :: own) w' ∧ RepS (cInt .i64) m' ra1 rc1 r.1.1 := by
 unfold testgatemake_Tape_Chance at hr
 have hm := m.le_refl
 refine W_calls Tryz.func29 rfl Tryz.ntmps29 [(0, .pointer (some ⟨bp0, 0, none⟩)), (1, .int .i64 p1), (2, .int .i64 p2)] kr rfl ?_
 refine W_sr (WO_seg 1 [] kr kr ?_)
 refine WO_et rfl (W_sr ?_)
 refine WO_seg 2 [(7, .pointer (some ⟨bp0, 0, none⟩)), (8, .int .i64 p2)] kr kr ?_
 replace ⟨y1, hx1, hr⟩ := bindS hr
 refine WO_one rfl (One_fn 9 14 #[.pointer (some ⟨bp0, 0, none⟩), .int .i64 p2] kr rfl ?_)
 refine (testgatemake_Tape_Next_ok st r1 hx1).mono ?_
 clear st
 rintro _ w1 ⟨a2, c2, m1, rfl, hle1, st, r2⟩
 refine ⟨_, rfl, ?_⟩
 have hm := Mem.le_trans hm hle1
 have r1 := r1.mono hle1
 refine WO_seg 3 [(6, .bool (decide (y1.2 < p1)))] kr kr ?_
 refine WO_et rfl (W_ret ?_)
 obtain rfl := Option.some.inj hr
 refine X_ret [.tmp 6] [.bool (decide (y1.2 < p1))] rfl (ResAll.cons (ResAt.tmp kr) ResAll.nil) ?_
 exact ⟨a2, c2, m1, rfl, hm, st, r2⟩
def testgatemake_Packages (N : Nat) : Option (List ByteArray) :=
 some ([(⟨#[112]⟩ : ByteArray), (⟨#[113]⟩ : ByteArray), (⟨#[115]⟩ : ByteArray)])
set_option maxHeartbeats 4000000 in
set_option maxRecDepth 100000 in
theorem testgatemake_Packages_ok {N : Nat} {m : Mem} {own : List Piece} {w : World} {r : List ByteArray} (st : St m (own) w) (hr : testgatemake_Packages N = some r) : Calls Tryz.prog 59 #[] w fun e w' => ∃ (ra1 : Option Addr) (rc1 : Nat) (m' : Mem), e = .returned (.slice ra1 (List.length r) rc1) ∧ m.le m' ∧ St m' (.room ra1 (List.length r) rc1 9 1 :: own) w' ∧ RepS cStr m' ra1 rc1 r := by
 unfold testgatemake_Packages at hr
 have hm := m.le_refl
 refine W_calls Tryz.func59 rfl Tryz.ntmps59 [] kr rfl ?_
 refine W_sr (WO_seg 1 [] kr kr ?_)
 refine WO_et rfl (W_sr ?_)
 refine WO_one rfl (One_buildSlice (d := 1) (t := 33) (e := 9) (len := 3) (parts := #[(0, (.const (.string (⟨#[112]⟩ : ByteArray)))), (1, (.const (.string (⟨#[113]⟩ : ByteArray)))), (2, (.const (.string (⟨#[115]⟩ : ByteArray))))]) cStr (xs := [(⟨#[112]⟩ : ByteArray), (⟨#[113]⟩ : ByteArray), (⟨#[115]⟩ : ByteArray)]) [.string (⟨#[112]⟩ : ByteArray), .string (⟨#[113]⟩ : ByteArray), .string (⟨#[115]⟩ : ByteArray)] kr rfl (fun _ => buildCells_run kr _) rfl rfl st ⟨[.string (⟨#[112]⟩ : ByteArray)], _, rfl, rfl, ⟨[.string (⟨#[113]⟩ : ByteArray)], _, rfl, rfl, ⟨[.string (⟨#[115]⟩ : ByteArray)], _, rfl, rfl, rfl⟩⟩⟩ ?_)
 clear st
 intro b1 m1 w1 hle1 st r1
 have hm := Mem.le_trans hm hle1
 refine WO_seg 1 [(0, .slice (some ⟨b1, 0, none⟩) (List.length ([(⟨#[112]⟩ : ByteArray), (⟨#[113]⟩ : ByteArray), (⟨#[115]⟩ : ByteArray)])) 3)] kr kr ?_
 refine WO_et rfl (W_ret ?_)
 obtain rfl := Option.some.inj hr
 refine X_ret [.tmp 0] [.slice (some ⟨b1, 0, none⟩) (List.length ([(⟨#[112]⟩ : ByteArray), (⟨#[113]⟩ : ByteArray), (⟨#[115]⟩ : ByteArray)])) 3] rfl (ResAll.cons (ResAt.tmp kr) ResAll.nil) ?_
 exact ⟨(some ⟨b1, 0, none⟩), 3, m1, rfl, hm, st, r1⟩
def testgatemake_Tape_One (N : Nat) (p0 : List Int × Int) (p1 : List ByteArray) : Option ((List Int × Int) × ByteArray) :=
 if ((List.length p1 : Int) == 0) = true then (some ((p0.1, p0.2), (⟨#[]⟩ : ByteArray))) else ((testgatemake_Tape_Next N (p0.1, p0.2) (List.length p1 : Int)).bind fun y1 => (idx p1 y1.2).bind fun x1 => some ((y1.1.1, y1.1.2), x1))
set_option maxHeartbeats 4000000 in
set_option maxRecDepth 100000 in
theorem testgatemake_Tape_One_ok {N : Nat} {m : Mem} {own : List Piece} {w : World} {p0 : List Int × Int} {p1 : List ByteArray} {bp0 : Nat} {a1 : Option Addr} {c1 : Nat} {a2 : Option Addr} {c2 : Nat} {r : (List Int × Int) × ByteArray} (st : St m (.blk bp0 (.cells #[.slice a1 (List.length p0.1) c1, .int .i64 p0.2] 28 (0, 0)) :: own) w) (r1 : RepS (cInt .i64) m a1 c1 p0.1) (r2 : RepS cStr m a2 c2 p1) (hr : testgatemake_Tape_One N p0 p1 = some r) : Calls Tryz.prog 13 #[.pointer (some ⟨bp0, 0, none⟩), .slice a2 (List.length p1) c2] w fun e w' => ∃ (ra1 : Option Addr) (rc1 : Nat) (m' : Mem), e = .returned (.string r.2) ∧ m.le m' ∧ St m' (.blk bp0 (.cells #[.slice ra1 (List.length r.1.1) rc1, .int .i64 r.1.2] 28 (0, 0)) :: own) w' ∧ RepS (cInt .i64) m' ra1 rc1 r.1.1 := by
 unfold testgatemake_Tape_One at hr
 have hm := m.le_refl
 refine W_calls Tryz.func13 rfl Tryz.ntmps13 [(0, .pointer (some ⟨bp0, 0, none⟩)), (1, .slice a2 (List.length p1) c2)] kr rfl ?_
 refine W_sr (WO_seg 1 [] kr kr ?_)
 refine WO_et rfl (W_seq ?_)
 refine W_sr (WO_seg 3 [(7, .bool ((List.length p1 : Int) == 0))] kr kr ?_)
 refine WO_et rfl (W_cond ((List.length p1 : Int) == 0) kr ?_ ?_)
 ·intro hc
  rw [if_pos hc] at hr
  refine W_sr (WO_seg 1 [(4, .string (⟨#[]⟩ : ByteArray))] kr kr ?_)
  refine WO_et rfl (W_ret ?_)
  refine X_then_ret ?_
  obtain rfl := Option.some.inj hr
  refine X_ret [.tmp 4] [.string (⟨#[]⟩ : ByteArray)] rfl (ResAll.cons (ResAt.tmp kr) ResAll.nil) ?_
  exact ⟨a1, c1, m, rfl, hm, st, r1⟩
 ·intro hc
  rw [if_neg (not_true hc)] at hr
  refine W_skip ?_
  refine X_then ?_
  refine W_sr (WO_seg 4 [(8, .slice a2 (List.length p1) c2), (9, .pointer (some ⟨bp0, 0, none⟩)), (11, .int .i64 (List.length p1 : Int))] kr kr ?_)
  replace ⟨y1, hx1, hr⟩ := bindS hr
  refine WO_one rfl (One_fn 12 14 #[.pointer (some ⟨bp0, 0, none⟩), .int .i64 (List.length p1 : Int)] kr rfl ?_)
  refine (testgatemake_Tape_Next_ok st r1 hx1).mono ?_
  clear st
  rintro _ w1 ⟨a3, c3, m1, rfl, hle1, st, r3⟩
  refine ⟨_, rfl, ?_⟩
  have hm := Mem.le_trans hm hle1
  have r2 := r2.mono hle1
  have r1 := r1.mono hle1
  replace ⟨x1, hx2, hr⟩ := bindS hr
  refine WO_one rfl (One_index (d := 13) (t := 33) (e := 9) (x := (.tmp 8)) (y := (.tmp 12)) cStr kr rfl (ev (.slice a2 (List.length p1) c2)) (ev (.int .i64 y1.2)) kr r2 hx2 ?_)
  rintro b1 f1 cs1 rfl hq1
  refine WO_one rfl (One_load_row (d := 14) (t := 9) (x := (.tmp 13)) (.string x1) kr rfl (ev (.pointer (some ⟨b1, f1, none⟩))) st hq1 kr ?_)
  refine WO_seg 1 [(4, .string x1)] kr kr ?_
  refine WO_et rfl (W_ret ?_)
  obtain rfl := Option.some.inj hr
  refine X_ret [.tmp 4] [.string x1] rfl (ResAll.cons (ResAt.tmp kr) ResAll.nil) ?_
  exact ⟨a3, c3, m1, rfl, hm, st, r3⟩
def testgatemake_Has_L1 (N : Nat) (p0 : List ByteArray) (p1 : ByteArray) (s1 : Int) : Option ((Int) ⊕ ((Unit) ⊕ (Bool))) :=
 if (decide (s1 < (List.length p0 : Int))) = true then ((idx p0 s1).bind fun x1 => if (x1.toList == p1.toList) = true then (some (.inr (.inr (true)))) else (some (.inl (IntKind.wrap .i64 (s1 + 1))))) else (some (.inr (.inl ())))
def testgatemake_Has (N : Nat) (p0 : List ByteArray) (p1 : ByteArray) : Option (Bool) :=
 (loopM (testgatemake_Has_L1 N p0 p1) N 0).bind fun out1 => (match out1 with | .inl o1 => some false | .inr (z) => some z)
set_option maxHeartbeats 4000000 in
set_option maxRecDepth 100000 in
theorem testgatemake_Has_ok {N : Nat} {m : Mem} {own : List Piece} {w : World} {p0 : List ByteArray} {p1 : ByteArray} {a1 : Option Addr} {c1 : Nat} {r : Bool} (st : St m (own) w) (r1 : RepS cStr m a1 c1 p0) (hr : testgatemake_Has N p0 p1 = some r) : Calls Tryz.prog 116 #[.slice a1 (List.length p0) c1, .string p1] w fun e w' => ∃ (m' : Mem), e = .returned (.bool r) ∧ m.le m' ∧ St m' (own) w' := by
 unfold testgatemake_Has at hr
 have hm := m.le_refl
 refine W_calls Tryz.func116 rfl Tryz.ntmps116 [(0, .slice a1 (List.length p0) c1), (1, .string p1)] kr rfl ?_
 refine W_sr (WO_seg 1 [] kr kr ?_)
 refine WO_et rfl (W_seq ?_)
 refine W_sr (WO_seg 1 [(5, .int .i64 0)] kr kr ?_)
 refine WO_et rfl (W_block ?_)
 replace ⟨out1, hr, hrKu1⟩ := bindS hr
 refine W_cut (.exit 0) (fun L' w' => ∃ (o1 : Unit) (m1 : Mem), (.inl o1) = out1 ∧ L' = [] ∧ m.le m1 ∧ St m1 (own) w') ?_ ?_
 ·clear hr st
  rintro _ w1 ⟨o1, m1, rfl, rfl, hm, st⟩
  have hr := hrKu1
  clear hrKu1
  dsimp only at hr
  refine X_block_eq ?_
  refine X_then ?_
  refine W_sr (WO_seg 1 [(4, .bool false)] kr kr ?_)
  refine WO_et rfl (W_ret ?_)
  obtain rfl := Option.some.inj hr
  refine X_ret [.tmp 4] [.bool false] rfl (ResAll.cons (ResAt.tmp kr) ResAll.nil) ?_
  exact ⟨m1, rfl, hm, st⟩
 intro K0_u1
 refine W_env _ kr (W_loop (fun k1 L' w' => ∃ (s1 : Int) (m2 : Mem), loopM (testgatemake_Has_L1 N p0 p1) k1 s1 = some out1 ∧ L' = [(0, .slice a1 (List.length p0) c1), (1, .string p1), (5, .int .i64 s1)] ∧ m.le m2 ∧ St m2 (own) w' ∧ RepS cStr m2 a1 c1 p0) N ⟨0, m, hr, rfl, hm, st, r1⟩ ?_)
 clear st hr
 rintro k1 _ w2 ⟨s1, m2, hL, rfl, hm, st, r1⟩
 rcases k1 with _ | k1
 ·exact loopM_zero hL
 ·obtain ⟨qu1, hr, hSu1, hBu1⟩ := loopM_succ hL
  clear hL
  unfold testgatemake_Has_L1 at hr
  refine W_seq ?_
  refine W_sr (WO_seg 4 [(9, .bool (decide (s1 < (List.length p0 : Int))))] kr kr ?_)
  refine WO_et rfl (W_cond (decide (s1 < (List.length p0 : Int))) kr ?_ ?_)
  ·intro hc
   rw [if_pos hc] at hr
   refine W_skip ?_
   refine X_then ?_
   refine W_seq ?_
   refine W_block ?_
   refine W_sr (WO_seg 2 [(12, .slice a1 (List.length p0) c1), (13, .int .i64 s1)] kr kr ?_)
   replace ⟨x1, hx1, hr⟩ := bindS hr
   refine WO_one rfl (One_index (d := 14) (t := 33) (e := 9) (x := (.tmp 12)) (y := (.tmp 13)) cStr kr rfl (ev (.slice a1 (List.length p0) c1)) (ev (.int .i64 s1)) kr r1 hx1 ?_)
   rintro b1 f1 cs1 rfl hq1
   refine WO_one rfl (One_load_row (d := 15) (t := 9) (x := (.tmp 14)) (.string x1) kr rfl (ev (.pointer (some ⟨b1, f1, none⟩))) st hq1 kr ?_)
   refine WO_seg 2 [(17, .bool (x1.toList == p1.toList))] kr kr ?_
   refine WO_et rfl (W_cond (x1.toList == p1.toList) kr ?_ ?_)
   ·intro hc
    rw [if_pos hc] at hr
    refine W_sr (WO_seg 1 [(4, .bool true)] kr kr ?_)
    refine WO_et rfl (W_ret ?_)
    refine X_block_ret ?_
    refine X_then_ret ?_
    obtain rfl := Option.some.inj hr
    have ho := hBu1 _ rfl
    subst ho
    have hr := hrKu1
    dsimp only at hr
    refine X_then_ret ?_
    refine X_block_ret ?_
    refine X_then_ret ?_
    obtain rfl := Option.some.inj hr
    refine X_ret [.tmp 4] [.bool true] rfl (ResAll.cons (ResAt.tmp kr) ResAll.nil) ?_
    exact ⟨m2, rfl, hm, st⟩
   ·intro hc
    rw [if_neg (not_true hc)] at hr
    refine W_skip ?_
    refine X_block ?_
    refine X_then ?_
    refine W_region ?_
    refine WO_seg 3 [(5, .int .i64 (IntKind.wrap .i64 (s1 + 1)))] kr kr ?_
    refine WO_end rfl ?_
    obtain rfl := Option.some.inj hr
    have hL := hSu1 _ rfl
    exact X_env _ kr (X_round k1 (Nat.lt_succ_self _) ⟨IntKind.wrap .i64 (s1 + 1), m2, hL, rfl, hm, st, r1⟩)
  ·intro hc
   rw [if_neg (not_true hc)] at hr
   refine W_exit ?_
   refine X_then_exit ?_
   obtain rfl := Option.some.inj hr
   have ho := hBu1 _ rfl
   refine X_then_exit ?_
   exact X_env _ kr (K0_u1 _ _ ⟨(), m2, ho, rfl, hm, st⟩)
def testgatemake_Tests (N : Nat) : Option (List ByteArray) :=
 some ([(⟨#[116]⟩ : ByteArray), (⟨#[117]⟩ : ByteArray), (⟨#[118]⟩ : ByteArray)])
set_option maxHeartbeats 4000000 in
set_option maxRecDepth 100000 in
theorem testgatemake_Tests_ok {N : Nat} {m : Mem} {own : List Piece} {w : World} {r : List ByteArray} (st : St m (own) w) (hr : testgatemake_Tests N = some r) : Calls Tryz.prog 104 #[] w fun e w' => ∃ (ra1 : Option Addr) (rc1 : Nat) (m' : Mem), e = .returned (.slice ra1 (List.length r) rc1) ∧ m.le m' ∧ St m' (.room ra1 (List.length r) rc1 9 1 :: own) w' ∧ RepS cStr m' ra1 rc1 r := by
 unfold testgatemake_Tests at hr
 have hm := m.le_refl
 refine W_calls Tryz.func104 rfl Tryz.ntmps104 [] kr rfl ?_
 refine W_sr (WO_seg 1 [] kr kr ?_)
 refine WO_et rfl (W_sr ?_)
 refine WO_one rfl (One_buildSlice (d := 1) (t := 33) (e := 9) (len := 3) (parts := #[(0, (.const (.string (⟨#[116]⟩ : ByteArray)))), (1, (.const (.string (⟨#[117]⟩ : ByteArray)))), (2, (.const (.string (⟨#[118]⟩ : ByteArray))))]) cStr (xs := [(⟨#[116]⟩ : ByteArray), (⟨#[117]⟩ : ByteArray), (⟨#[118]⟩ : ByteArray)]) [.string (⟨#[116]⟩ : ByteArray), .string (⟨#[117]⟩ : ByteArray), .string (⟨#[118]⟩ : ByteArray)] kr rfl (fun _ => buildCells_run kr _) rfl rfl st ⟨[.string (⟨#[116]⟩ : ByteArray)], _, rfl, rfl, ⟨[.string (⟨#[117]⟩ : ByteArray)], _, rfl, rfl, ⟨[.string (⟨#[118]⟩ : ByteArray)], _, rfl, rfl, rfl⟩⟩⟩ ?_)
 clear st
 intro b1 m1 w1 hle1 st r1
 have hm := Mem.le_trans hm hle1
 refine WO_seg 1 [(0, .slice (some ⟨b1, 0, none⟩) (List.length ([(⟨#[116]⟩ : ByteArray), (⟨#[117]⟩ : ByteArray), (⟨#[118]⟩ : ByteArray)])) 3)] kr kr ?_
 refine WO_et rfl (W_ret ?_)
 obtain rfl := Option.some.inj hr
 refine X_ret [.tmp 0] [.slice (some ⟨b1, 0, none⟩) (List.length ([(⟨#[116]⟩ : ByteArray), (⟨#[117]⟩ : ByteArray), (⟨#[118]⟩ : ByteArray)])) 3] rfl (ResAll.cons (ResAt.tmp kr) ResAll.nil) ?_
 exact ⟨(some ⟨b1, 0, none⟩), 3, m1, rfl, hm, st, r1⟩
def testgatemake_Paths (N : Nat) : Option (List ByteArray) :=
 some ([(⟨#[97, 46, 100, 97, 116]⟩ : ByteArray), (⟨#[100, 47, 98, 46, 100, 97, 116]⟩ : ByteArray), (⟨#[99]⟩ : ByteArray), (⟨#[97, 46, 115, 114, 99]⟩ : ByteArray), (⟨#[120, 46, 115, 114, 99]⟩ : ByteArray)])
set_option maxHeartbeats 4000000 in
set_option maxRecDepth 100000 in
theorem testgatemake_Paths_ok {N : Nat} {m : Mem} {own : List Piece} {w : World} {r : List ByteArray} (st : St m (own) w) (hr : testgatemake_Paths N = some r) : Calls Tryz.prog 105 #[] w fun e w' => ∃ (ra1 : Option Addr) (rc1 : Nat) (m' : Mem), e = .returned (.slice ra1 (List.length r) rc1) ∧ m.le m' ∧ St m' (.room ra1 (List.length r) rc1 9 1 :: own) w' ∧ RepS cStr m' ra1 rc1 r := by
 unfold testgatemake_Paths at hr
 have hm := m.le_refl
 refine W_calls Tryz.func105 rfl Tryz.ntmps105 [] kr rfl ?_
 refine W_sr (WO_seg 1 [] kr kr ?_)
 refine WO_et rfl (W_sr ?_)
 refine WO_one rfl (One_buildSlice (d := 1) (t := 33) (e := 9) (len := 5) (parts := #[(0, (.const (.string (⟨#[97, 46, 100, 97, 116]⟩ : ByteArray)))), (1, (.const (.string (⟨#[100, 47, 98, 46, 100, 97, 116]⟩ : ByteArray)))), (2, (.const (.string (⟨#[99]⟩ : ByteArray)))), (3, (.const (.string (⟨#[97, 46, 115, 114, 99]⟩ : ByteArray)))), (4, (.const (.string (⟨#[120, 46, 115, 114, 99]⟩ : ByteArray))))]) cStr (xs := [(⟨#[97, 46, 100, 97, 116]⟩ : ByteArray), (⟨#[100, 47, 98, 46, 100, 97, 116]⟩ : ByteArray), (⟨#[99]⟩ : ByteArray), (⟨#[97, 46, 115, 114, 99]⟩ : ByteArray), (⟨#[120, 46, 115, 114, 99]⟩ : ByteArray)]) [.string (⟨#[97, 46, 100, 97, 116]⟩ : ByteArray), .string (⟨#[100, 47, 98, 46, 100, 97, 116]⟩ : ByteArray), .string (⟨#[99]⟩ : ByteArray), .string (⟨#[97, 46, 115, 114, 99]⟩ : ByteArray), .string (⟨#[120, 46, 115, 114, 99]⟩ : ByteArray)] kr rfl (fun _ => buildCells_run kr _) rfl rfl st ⟨[.string (⟨#[97, 46, 100, 97, 116]⟩ : ByteArray)], _, rfl, rfl, ⟨[.string (⟨#[100, 47, 98, 46, 100, 97, 116]⟩ : ByteArray)], _, rfl, rfl, ⟨[.string (⟨#[99]⟩ : ByteArray)], _, rfl, rfl, ⟨[.string (⟨#[97, 46, 115, 114, 99]⟩ : ByteArray)], _, rfl, rfl, ⟨[.string (⟨#[120, 46, 115, 114, 99]⟩ : ByteArray)], _, rfl, rfl, rfl⟩⟩⟩⟩⟩ ?_)
 clear st
 intro b1 m1 w1 hle1 st r1
 have hm := Mem.le_trans hm hle1
 refine WO_seg 1 [(0, .slice (some ⟨b1, 0, none⟩) (List.length ([(⟨#[97, 46, 100, 97, 116]⟩ : ByteArray), (⟨#[100, 47, 98, 46, 100, 97, 116]⟩ : ByteArray), (⟨#[99]⟩ : ByteArray), (⟨#[97, 46, 115, 114, 99]⟩ : ByteArray), (⟨#[120, 46, 115, 114, 99]⟩ : ByteArray)])) 5)] kr kr ?_
 refine WO_et rfl (W_ret ?_)
 obtain rfl := Option.some.inj hr
 refine X_ret [.tmp 0] [.slice (some ⟨b1, 0, none⟩) (List.length ([(⟨#[97, 46, 100, 97, 116]⟩ : ByteArray), (⟨#[100, 47, 98, 46, 100, 97, 116]⟩ : ByteArray), (⟨#[99]⟩ : ByteArray), (⟨#[97, 46, 115, 114, 99]⟩ : ByteArray), (⟨#[120, 46, 115, 114, 99]⟩ : ByteArray)])) 5] rfl (ResAll.cons (ResAt.tmp kr) ResAll.nil) ?_
 exact ⟨(some ⟨b1, 0, none⟩), 5, m1, rfl, hm, st, r1⟩
def testgatemake_Variables (N : Nat) : Option (List ByteArray) :=
 some ([(⟨#[110]⟩ : ByteArray), (⟨#[109]⟩ : ByteArray)])
set_option maxHeartbeats 4000000 in
set_option maxRecDepth 100000 in
theorem testgatemake_Variables_ok {N : Nat} {m : Mem} {own : List Piece} {w : World} {r : List ByteArray} (st : St m (own) w) (hr : testgatemake_Variables N = some r) : Calls Tryz.prog 106 #[] w fun e w' => ∃ (ra1 : Option Addr) (rc1 : Nat) (m' : Mem), e = .returned (.slice ra1 (List.length r) rc1) ∧ m.le m' ∧ St m' (.room ra1 (List.length r) rc1 9 1 :: own) w' ∧ RepS cStr m' ra1 rc1 r := by
 unfold testgatemake_Variables at hr
 have hm := m.le_refl
 refine W_calls Tryz.func106 rfl Tryz.ntmps106 [] kr rfl ?_
 refine W_sr (WO_seg 1 [] kr kr ?_)
 refine WO_et rfl (W_sr ?_)
 refine WO_one rfl (One_buildSlice (d := 1) (t := 33) (e := 9) (len := 2) (parts := #[(0, (.const (.string (⟨#[110]⟩ : ByteArray)))), (1, (.const (.string (⟨#[109]⟩ : ByteArray))))]) cStr (xs := [(⟨#[110]⟩ : ByteArray), (⟨#[109]⟩ : ByteArray)]) [.string (⟨#[110]⟩ : ByteArray), .string (⟨#[109]⟩ : ByteArray)] kr rfl (fun _ => buildCells_run kr _) rfl rfl st ⟨[.string (⟨#[110]⟩ : ByteArray)], _, rfl, rfl, ⟨[.string (⟨#[109]⟩ : ByteArray)], _, rfl, rfl, rfl⟩⟩ ?_)
 clear st
 intro b1 m1 w1 hle1 st r1
 have hm := Mem.le_trans hm hle1
 refine WO_seg 1 [(0, .slice (some ⟨b1, 0, none⟩) (List.length ([(⟨#[110]⟩ : ByteArray), (⟨#[109]⟩ : ByteArray)])) 2)] kr kr ?_
 refine WO_et rfl (W_ret ?_)
 obtain rfl := Option.some.inj hr
 refine X_ret [.tmp 0] [.slice (some ⟨b1, 0, none⟩) (List.length ([(⟨#[110]⟩ : ByteArray), (⟨#[109]⟩ : ByteArray)])) 2] rfl (ResAll.cons (ResAt.tmp kr) ResAll.nil) ?_
 exact ⟨(some ⟨b1, 0, none⟩), 2, m1, rfl, hm, st, r1⟩
def testgatemake_Tape_Pick (N : Nat) (p0 : List Int × Int) (p1 : List Int) : Option ((List Int × Int) × Int) :=
 if ((List.length p1 : Int) == 0) = true then (some ((p0.1, p0.2), 0)) else ((testgatemake_Tape_Next N (p0.1, p0.2) (List.length p1 : Int)).bind fun y1 => (idx p1 y1.2).bind fun x1 => some ((y1.1.1, y1.1.2), x1))
set_option maxHeartbeats 4000000 in
set_option maxRecDepth 100000 in
theorem testgatemake_Tape_Pick_ok {N : Nat} {m : Mem} {own : List Piece} {w : World} {p0 : List Int × Int} {p1 : List Int} {bp0 : Nat} {a1 : Option Addr} {c1 : Nat} {a2 : Option Addr} {c2 : Nat} {r : (List Int × Int) × Int} (st : St m (.blk bp0 (.cells #[.slice a1 (List.length p0.1) c1, .int .i64 p0.2] 28 (0, 0)) :: own) w) (r1 : RepS (cInt .i64) m a1 c1 p0.1) (r2 : RepS (cInt .i64) m a2 c2 p1) (hr : testgatemake_Tape_Pick N p0 p1 = some r) : Calls Tryz.prog 40 #[.pointer (some ⟨bp0, 0, none⟩), .slice a2 (List.length p1) c2] w fun e w' => ∃ (ra1 : Option Addr) (rc1 : Nat) (m' : Mem), e = .returned (.int .i64 r.2) ∧ m.le m' ∧ St m' (.blk bp0 (.cells #[.slice ra1 (List.length r.1.1) rc1, .int .i64 r.1.2] 28 (0, 0)) :: own) w' ∧ RepS (cInt .i64) m' ra1 rc1 r.1.1 := by
 unfold testgatemake_Tape_Pick at hr
 have hm := m.le_refl
 refine W_calls Tryz.func40 rfl Tryz.ntmps40 [(0, .pointer (some ⟨bp0, 0, none⟩)), (1, .slice a2 (List.length p1) c2)] kr rfl ?_
 refine W_sr (WO_seg 1 [] kr kr ?_)
 refine WO_et rfl (W_seq ?_)
 refine W_sr (WO_seg 3 [(7, .bool ((List.length p1 : Int) == 0))] kr kr ?_)
 refine WO_et rfl (W_cond ((List.length p1 : Int) == 0) kr ?_ ?_)
 ·intro hc
  rw [if_pos hc] at hr
  refine W_sr (WO_seg 1 [(4, .int .i64 0)] kr kr ?_)
  refine WO_et rfl (W_ret ?_)
  refine X_then_ret ?_
  obtain rfl := Option.some.inj hr
  refine X_ret [.tmp 4] [.int .i64 0] rfl (ResAll.cons (ResAt.tmp kr) ResAll.nil) ?_
  exact ⟨a1, c1, m, rfl, hm, st, r1⟩
 ·intro hc
  rw [if_neg (not_true hc)] at hr
  refine W_skip ?_
  refine X_then ?_
  refine W_sr (WO_seg 4 [(8, .slice a2 (List.length p1) c2), (9, .pointer (some ⟨bp0, 0, none⟩)), (11, .int .i64 (List.length p1 : Int))] kr kr ?_)
  replace ⟨y1, hx1, hr⟩ := bindS hr
  refine WO_one rfl (One_fn 12 14 #[.pointer (some ⟨bp0, 0, none⟩), .int .i64 (List.length p1 : Int)] kr rfl ?_)
  refine (testgatemake_Tape_Next_ok st r1 hx1).mono ?_
  clear st
  rintro _ w1 ⟨a3, c3, m1, rfl, hle1, st, r3⟩
  refine ⟨_, rfl, ?_⟩
  have hm := Mem.le_trans hm hle1
  have r2 := r2.mono hle1
  have r1 := r1.mono hle1
  replace ⟨x1, hx2, hr⟩ := bindS hr
  refine WO_one rfl (One_index (d := 13) (t := 22) (e := 3) (x := (.tmp 8)) (y := (.tmp 12)) (cInt .i64) kr rfl (ev (.slice a2 (List.length p1) c2)) (ev (.int .i64 y1.2)) kr r2 hx2 ?_)
  rintro b1 f1 cs1 rfl hq1
  refine WO_one rfl (One_load_row (d := 14) (t := 3) (x := (.tmp 13)) (.int .i64 x1) kr rfl (ev (.pointer (some ⟨b1, f1, none⟩))) st hq1 kr ?_)
  refine WO_seg 1 [(4, .int .i64 x1)] kr kr ?_
  refine WO_et rfl (W_ret ?_)
  obtain rfl := Option.some.inj hr
  refine X_ret [.tmp 4] [.int .i64 x1] rfl (ResAll.cons (ResAt.tmp kr) ResAll.nil) ?_
  exact ⟨a3, c3, m1, rfl, hm, st, r3⟩
def testgatemake_Digits_B (N : Nat) (rec_testgatemake_Digits : (Int) → Option (ByteArray)) (p0 : Int) : Option (ByteArray) :=
 if (decide (p0 < 10)) = true then ((subB (⟨#[48, 49, 50, 51, 52, 53, 54, 55, 56, 57]⟩ : ByteArray) p0 (IntKind.wrap .i64 (p0 + 1))).bind fun s1 => some s1) else ((rec_testgatemake_Digits (IntKind.wrap .i64 (Int.tdiv p0 10))).bind fun y1 => (rec_testgatemake_Digits (Int.tmod p0 10)).bind fun y2 => (catB y1 y2).bind fun s2 => some s2)
def testgatemake_Digits_G (N : Nat) : Nat → ((Int) → Option (ByteArray))
 | 0 => (fun _ => none)
 | D + 1 => testgatemake_Digits_B N (testgatemake_Digits_G N D)
def testgatemake_Digits (N : Nat) (p0 : Int) : Option (ByteArray) := (testgatemake_Digits_G N N) p0
set_option maxHeartbeats 4000000 in
set_option maxRecDepth 100000 in
theorem testgatemake_Digits_B_ok {N : Nat} {rec_testgatemake_Digits : (Int) → Option (ByteArray)} (ih_testgatemake_Digits : ∀ {m : Mem} {own : List Piece} {w : World} {p0 : Int} {r : ByteArray} (st : St m (own) w) (hr : rec_testgatemake_Digits p0 = some r), Calls Tryz.prog 60 #[.int .i64 p0] w fun e w' => ∃ (m' : Mem), e = .returned (.string r) ∧ m.le m' ∧ St m' (own) w') {m : Mem} {own : List Piece} {w : World} {p0 : Int} {r : ByteArray} (st : St m (own) w) (hr : testgatemake_Digits_B N rec_testgatemake_Digits p0 = some r) : Calls Tryz.prog 60 #[.int .i64 p0] w fun e w' => ∃ (m' : Mem), e = .returned (.string r) ∧ m.le m' ∧ St m' (own) w' := by
 unfold testgatemake_Digits_B at hr
 have hm := m.le_refl
 refine W_calls Tryz.func60 rfl Tryz.ntmps60 [(0, .int .i64 p0)] kr rfl ?_
 refine W_sr (WO_seg 1 [] kr kr ?_)
 refine WO_et rfl (W_seq ?_)
 refine W_sr (WO_seg 2 [(4, .bool (decide (p0 < 10)))] kr kr ?_)
 refine WO_et rfl (W_cond (decide (p0 < 10)) kr ?_ ?_)
 ·intro hc
  rw [if_pos hc] at hr
  refine W_sr (WO_seg 3 [(5, .int .i64 p0), (7, .int .i64 (IntKind.wrap .i64 (p0 + 1)))] kr kr ?_)
  replace ⟨s1, hx1, hr⟩ := bindS hr
  refine WO_one rfl (One_strSlice (d := 8) (t := 9) (x := (.const (.string (⟨#[48, 49, 50, 51, 52, 53, 54, 55, 56, 57]⟩ : ByteArray)))) (lo := (some (.tmp 5))) (hi := (some (.tmp 7))) kr rfl (ev (.string (⟨#[48, 49, 50, 51, 52, 53, 54, 55, 56, 57]⟩ : ByteArray))) kr (.inr ⟨_, _, rfl, (ev (.int .i64 p0))⟩) (.inr ⟨_, _, rfl, (ev (.int .i64 (IntKind.wrap .i64 (p0 + 1))))⟩) hx1 ?_)
  refine WO_seg 1 [(2, .string s1)] kr kr ?_
  refine WO_et rfl (W_ret ?_)
  refine X_then_ret ?_
  obtain rfl := Option.some.inj hr
  refine X_ret [.tmp 2] [.string s1] rfl (ResAll.cons (ResAt.tmp kr) ResAll.nil) ?_
  exact ⟨m, rfl, hm, st⟩
 ·intro hc
  rw [if_neg (not_true hc)] at hr
  refine W_skip ?_
  refine X_then ?_
  refine W_sr (WO_seg 2 [(10, .int .i64 (IntKind.wrap .i64 (Int.tdiv p0 10)))] kr kr ?_)
  replace ⟨y1, hx2, hr⟩ := bindS hr
  refine WO_one rfl (One_fn 11 60 #[.int .i64 (IntKind.wrap .i64 (Int.tdiv p0 10))] kr rfl ?_)
  refine (ih_testgatemake_Digits st hx2).mono ?_
  clear st
  rintro _ w1 ⟨m1, rfl, hle1, st⟩
  refine ⟨_, rfl, ?_⟩
  have hm := Mem.le_trans hm hle1
  refine WO_seg 2 [(13, .int .i64 (Int.tmod p0 10))] kr kr ?_
  replace ⟨y2, hx3, hr⟩ := bindS hr
  refine WO_one rfl (One_fn 14 60 #[.int .i64 (Int.tmod p0 10)] kr rfl ?_)
  refine (ih_testgatemake_Digits st hx3).mono ?_
  clear st
  rintro _ w2 ⟨m2, rfl, hle2, st⟩
  refine ⟨_, rfl, ?_⟩
  have hm := Mem.le_trans hm hle2
  replace ⟨s2, hx4, hr⟩ := bindS hr
  refine WO_one rfl (One_cat (d := 15) (t := 9) (t2 := 9) (x := (.tmp 11)) (y := (.tmp 14)) kr rfl (ev (.string y1)) (ev (.string y2)) hx4 ?_)
  refine WO_seg 1 [(2, .string s2)] kr kr ?_
  refine WO_et rfl (W_ret ?_)
  obtain rfl := Option.some.inj hr
  refine X_ret [.tmp 2] [.string s2] rfl (ResAll.cons (ResAt.tmp kr) ResAll.nil) ?_
  exact ⟨m2, rfl, hm, st⟩
theorem testgatemake_Digits_G_ok (N : Nat) : ∀ D : Nat, (∀ {m : Mem} {own : List Piece} {w : World} {p0 : Int} {r : ByteArray} (st : St m (own) w) (hr : (testgatemake_Digits_G N D) p0 = some r), Calls Tryz.prog 60 #[.int .i64 p0] w fun e w' => ∃ (m' : Mem), e = .returned (.string r) ∧ m.le m' ∧ St m' (own) w')
 | 0 => fun _  hr => by cases hr
 | D + 1 => fun st  hr => testgatemake_Digits_B_ok (testgatemake_Digits_G_ok N D) st  hr
theorem testgatemake_Digits_ok {N : Nat} {m : Mem} {own : List Piece} {w : World} {p0 : Int} {r : ByteArray} (st : St m (own) w) (hr : testgatemake_Digits N p0 = some r) : Calls Tryz.prog 60 #[.int .i64 p0] w fun e w' => ∃ (m' : Mem), e = .returned (.string r) ∧ m.le m' ∧ St m' (own) w' :=
 (testgatemake_Digits_G_ok N N) st  hr
def testgatemake_Functions (N : Nat) : Option (List ByteArray) :=
 some ([(⟨#[102]⟩ : ByteArray), (⟨#[103]⟩ : ByteArray), (⟨#[104]⟩ : ByteArray), (⟨#[107]⟩ : ByteArray)])
set_option maxHeartbeats 4000000 in
set_option maxRecDepth 100000 in
theorem testgatemake_Functions_ok {N : Nat} {m : Mem} {own : List Piece} {w : World} {r : List ByteArray} (st : St m (own) w) (hr : testgatemake_Functions N = some r) : Calls Tryz.prog 21 #[] w fun e w' => ∃ (ra1 : Option Addr) (rc1 : Nat) (m' : Mem), e = .returned (.slice ra1 (List.length r) rc1) ∧ m.le m' ∧ St m' (.room ra1 (List.length r) rc1 9 1 :: own) w' ∧ RepS cStr m' ra1 rc1 r := by
 unfold testgatemake_Functions at hr
 have hm := m.le_refl
 refine W_calls Tryz.func21 rfl Tryz.ntmps21 [] kr rfl ?_
 refine W_sr (WO_seg 1 [] kr kr ?_)
 refine WO_et rfl (W_sr ?_)
 refine WO_one rfl (One_buildSlice (d := 1) (t := 33) (e := 9) (len := 4) (parts := #[(0, (.const (.string (⟨#[102]⟩ : ByteArray)))), (1, (.const (.string (⟨#[103]⟩ : ByteArray)))), (2, (.const (.string (⟨#[104]⟩ : ByteArray)))), (3, (.const (.string (⟨#[107]⟩ : ByteArray))))]) cStr (xs := [(⟨#[102]⟩ : ByteArray), (⟨#[103]⟩ : ByteArray), (⟨#[104]⟩ : ByteArray), (⟨#[107]⟩ : ByteArray)]) [.string (⟨#[102]⟩ : ByteArray), .string (⟨#[103]⟩ : ByteArray), .string (⟨#[104]⟩ : ByteArray), .string (⟨#[107]⟩ : ByteArray)] kr rfl (fun _ => buildCells_run kr _) rfl rfl st ⟨[.string (⟨#[102]⟩ : ByteArray)], _, rfl, rfl, ⟨[.string (⟨#[103]⟩ : ByteArray)], _, rfl, rfl, ⟨[.string (⟨#[104]⟩ : ByteArray)], _, rfl, rfl, ⟨[.string (⟨#[107]⟩ : ByteArray)], _, rfl, rfl, rfl⟩⟩⟩⟩ ?_)
 clear st
 intro b1 m1 w1 hle1 st r1
 have hm := Mem.le_trans hm hle1
 refine WO_seg 1 [(0, .slice (some ⟨b1, 0, none⟩) (List.length ([(⟨#[102]⟩ : ByteArray), (⟨#[103]⟩ : ByteArray), (⟨#[104]⟩ : ByteArray), (⟨#[107]⟩ : ByteArray)])) 4)] kr kr ?_
 refine WO_et rfl (W_ret ?_)
 obtain rfl := Option.some.inj hr
 refine X_ret [.tmp 0] [.slice (some ⟨b1, 0, none⟩) (List.length ([(⟨#[102]⟩ : ByteArray), (⟨#[103]⟩ : ByteArray), (⟨#[104]⟩ : ByteArray), (⟨#[107]⟩ : ByteArray)])) 4] rfl (ResAll.cons (ResAt.tmp kr) ResAll.nil) ?_
 exact ⟨(some ⟨b1, 0, none⟩), 4, m1, rfl, hm, st, r1⟩
def testgatemake_Expr_L1 (N : Nat) (rec_testgatemake_Expr : (List Int × Int) → (Int) → (List ByteArray) → Option ((List Int × Int) × ByteArray)) (p1 : Int) (p2 : List ByteArray) (s11 : ByteArray × Int × List (Int) × Int) : Option ((ByteArray × Int × List (Int) × Int) ⊕ ((ByteArray × List (Int) × Int))) :=
 if (decide (s11.2.1 > 0)) = true then ((rec_testgatemake_Expr (s11.2.2.1, s11.2.2.2) (IntKind.wrap .i64 (p1 - 1)) p2).bind fun y20 => (catB (⟨#[44, 32]⟩ : ByteArray) y20.2).bind fun s12 => (catB s11.1 s12).bind fun s13 => some (.inl (s13, IntKind.wrap .i64 (s11.2.1 - 1), y20.1.1, y20.1.2))) else (some (.inr (s11.1, s11.2.2.1, s11.2.2.2)))
def testgatemake_Expr_B (N : Nat) (rec_testgatemake_Expr : (List Int × Int) → (Int) → (List ByteArray) → Option ((List Int × Int) × ByteArray)) (p0 : List Int × Int) (p1 : Int) (p2 : List ByteArray) : Option ((List Int × Int) × ByteArray) :=
 (if (decide (p1 ≤ 0)) = true then (some (true, p0.1, p0.2)) else ((testgatemake_Tape_Chance N (p0.1, p0.2) 1 4).bind fun y1 => some (y1.2, y1.1.1, y1.1.2)) : Option (Bool × List (Int) × Int)).bind fun o1 => if o1.1 = true then ((testgatemake_Tape_Next N (o1.2.1, o1.2.2) 9).bind fun y2 => ((if (y2.2 == 0) = true then (some (y2.2 == 0)) else (some (y2.2 == 1)) : Option (Bool)).bind fun o3 => if o3 = true then (if (decide ((List.length p2 : Int) > 0)) = true then ((testgatemake_Tape_One N (y2.1.1, y2.1.2) p2).bind fun y3 => some (.inr ((y3.1.1, y3.1.2), y3.2))) else (some (.inl (y2.1.1, y2.1.2)))) else (if (y2.2 == 2) = true then ((testgatemake_Paths N).bind fun y4 => (testgatemake_Tape_One N (y2.1.1, y2.1.2) y4).bind fun y5 => (catB (⟨#[115, 105, 122, 101, 40, 34]⟩ : ByteArray) y5.2).bind fun s1 => (catB s1 (⟨#[34, 41]⟩ : ByteArray)).bind fun s2 => some (.inr ((y5.1.1, y5.1.2), s2))) else (if (y2.2 == 3) = true then ((testgatemake_Paths N).bind fun y6 => (testgatemake_Tape_One N (y2.1.1, y2.1.2) y6).bind fun y7 => (catB (⟨#[104, 97, 115, 40, 34]⟩ : ByteArray) y7.2).bind fun s3 => (catB s3 (⟨#[34, 41]⟩ : ByteArray)).bind fun s4 => some (.inr ((y7.1.1, y7.1.2), s4))) else (if (y2.2 == 4) = true then ((testgatemake_Variables N).bind fun y8 => (testgatemake_Tape_One N (y2.1.1, y2.1.2) y8).bind fun y9 => (catB (⟨#[101, 110, 118, 40, 34]⟩ : ByteArray) y9.2).bind fun s5 => (catB s5 (⟨#[34, 41]⟩ : ByteArray)).bind fun s6 => some (.inr ((y9.1.1, y9.1.2), s6))) else (if (y2.2 == 5) = true then ((testgatemake_Tape_Chance N (y2.1.1, y2.1.2) 1 5).bind fun y10 => if y10.2 = true then ((testgatemake_Tape_Pick N (y10.1.1, y10.1.2) ([0, 1, 63])).bind fun y11 => (testgatemake_Digits N y11.2).bind fun y12 => (catB (⟨#[102, 108, 105, 112, 40]⟩ : ByteArray) y12).bind fun s7 => (catB s7 (⟨#[41]⟩ : ByteArray)).bind fun s8 => some (.inr ((y11.1.1, y11.1.2), s8))) else (some (.inl (y10.1.1, y10.1.2)))) else (some (.inl (y2.1.1, y2.1.2))))))) : Option ((List (Int) × Int) ⊕ ((List Int × Int) × ByteArray))).bind fun qu1 => (match qu1 with | .inl o2 => (testgatemake_Tape_Pick N (o2.1, o2.2) ([0, 1, 2, 3, 10, 255, 9007199254740992, 1073741824])).bind fun y13 => (testgatemake_Digits N y13.2).bind fun y14 => some ((y13.1.1, y13.1.2), y14) | .inr z => some z)) else ((testgatemake_Tape_Next N (o1.2.1, o1.2.2) 10).bind fun y15 => (if (y15.2 == 0) = true then (some (y15.2 == 0)) else (if (y15.2 == 1) = true then (some (y15.2 == 1)) else (some (y15.2 == 2))) : Option (Bool)).bind fun o4 => if o4 = true then ((testgatemake_Functions N).bind fun y16 => (testgatemake_Tape_One N (y15.1.1, y15.1.2) y16).bind fun y17 => (catB y17.2 (⟨#[40]⟩ : ByteArray)).bind fun s9 => (rec_testgatemake_Expr (y17.1.1, y17.1.2) (IntKind.wrap .i64 (p1 - 1)) p2).bind fun y18 => (catB s9 y18.2).bind fun s10 => (testgatemake_Tape_Pick N (y18.1.1, y18.1.2) ([0, 0, 0, 1])).bind fun y19 => (loopM (testgatemake_Expr_L1 N rec_testgatemake_Expr p1 p2) N (s10, y19.2, y19.1.1, y19.1.2)).bind fun o5 => (catB o5.1 (⟨#[41]⟩ : ByteArray)).bind fun s14 => some ((o5.2.1, o5.2.2), s14)) else (if (y15.2 == 3) = true then ((rec_testgatemake_Expr (y15.1.1, y15.1.2) (IntKind.wrap .i64 (p1 - 1)) p2).bind fun y21 => (catB (⟨#[105, 102, 32]⟩ : ByteArray) y21.2).bind fun s15 => (catB s15 (⟨#[32, 116, 104, 101, 110, 32]⟩ : ByteArray)).bind fun s16 => (rec_testgatemake_Expr (y21.1.1, y21.1.2) (IntKind.wrap .i64 (p1 - 1)) p2).bind fun y22 => (catB s16 y22.2).bind fun s17 => (catB s17 (⟨#[32, 101, 108, 115, 101, 32, 40]⟩ : ByteArray)).bind fun s18 => (rec_testgatemake_Expr (y22.1.1, y22.1.2) (IntKind.wrap .i64 (p1 - 1)) p2).bind fun y23 => (catB s18 y23.2).bind fun s19 => (catB s19 (⟨#[41]⟩ : ByteArray)).bind fun s20 => some ((y23.1.1, y23.1.2), s20)) else (if (y15.2 == 4) = true then ((testgatemake_Paths N).bind fun y24 => (testgatemake_Tape_One N (y15.1.1, y15.1.2) y24).bind fun y25 => (catB (⟨#[114, 101, 97, 100, 40, 34]⟩ : ByteArray) y25.2).bind fun s21 => (catB s21 (⟨#[34, 44, 32]⟩ : ByteArray)).bind fun s22 => (rec_testgatemake_Expr (y25.1.1, y25.1.2) (IntKind.wrap .i64 (p1 - 1)) p2).bind fun y26 => (catB s22 y26.2).bind fun s23 => (catB s23 (⟨#[41]⟩ : ByteArray)).bind fun s24 => some ((y26.1.1, y26.1.2), s24)) else (if (y15.2 == 5) = true then ((rec_testgatemake_Expr (y15.1.1, y15.1.2) (IntKind.wrap .i64 (p1 - 1)) p2).bind fun y27 => (catB (⟨#[40]⟩ : ByteArray) y27.2).bind fun s25 => (catB s25 (⟨#[41]⟩ : ByteArray)).bind fun s26 => some ((y27.1.1, y27.1.2), s26)) else ((rec_testgatemake_Expr (y15.1.1, y15.1.2) (IntKind.wrap .i64 (p1 - 1)) p2).bind fun y28 => (catB (⟨#[40]⟩ : ByteArray) y28.2).bind fun s27 => (catB s27 (⟨#[41, 32]⟩ : ByteArray)).bind fun s28 => (testgatemake_Tape_One N (y28.1.1, y28.1.2) ([(⟨#[43]⟩ : ByteArray), (⟨#[45]⟩ : ByteArray), (⟨#[42]⟩ : ByteArray), (⟨#[47]⟩ : ByteArray), (⟨#[37]⟩ : ByteArray), (⟨#[60]⟩ : ByteArray), (⟨#[61, 61]⟩ : ByteArray)])).bind fun y29 => (catB s28 y29.2).bind fun s29 => (catB s29 (⟨#[32, 40]⟩ : ByteArray)).bind fun s30 => (rec_testgatemake_Expr (y29.1.1, y29.1.2) (IntKind.wrap .i64 (p1 - 1)) p2).bind fun y30 => (catB s30 y30.2).bind fun s31 => (catB s31 (⟨#[41]⟩ : ByteArray)).bind fun s32 => some ((y30.1.1, y30.1.2), s32))))))
def testgatemake_Expr_G (N : Nat) : Nat → ((List Int × Int) → (Int) → (List ByteArray) → Option ((List Int × Int) × ByteArray))
 | 0 => (fun _ _ _ => none)
 | D + 1 => testgatemake_Expr_B N (testgatemake_Expr_G N D)
def testgatemake_Expr (N : Nat) (p0 : List Int × Int) (p1 : Int) (p2 : List ByteArray) : Option ((List Int × Int) × ByteArray) := (testgatemake_Expr_G N N) p0 p1 p2
set_option maxHeartbeats 4000000 in
set_option maxRecDepth 100000 in
theorem testgatemake_Expr_B_ok {N : Nat} {rec_testgatemake_Expr : (List Int × Int) → (Int) → (List ByteArray) → Option ((List Int × Int) × ByteArray)} (ih_testgatemake_Expr : ∀ {m : Mem} {own : List Piece} {w : World} {p0 : List Int × Int} {p1 : Int} {p2 : List ByteArray} {bp0 : Nat} {a1 : Option Addr} {c1 : Nat} {a2 : Option Addr} {c2 : Nat} {r : (List Int × Int) × ByteArray} (st : St m (.blk bp0 (.cells #[.slice a1 (List.length p0.1) c1, .int .i64 p0.2] 28 (0, 0)) :: own) w) (r1 : RepS (cInt .i64) m a1 c1 p0.1) (r2 : RepS cStr m a2 c2 p2) (hr : rec_testgatemake_Expr p0 p1 p2 = some r), Calls Tryz.prog 117 #[.pointer (some ⟨bp0, 0, none⟩), .int .i64 p1, .slice a2 (List.length p2) c2] w fun e w' => ∃ (ra1 : Option Addr) (rc1 : Nat) (m' : Mem), e = .returned (.string r.2) ∧ m.le m' ∧ St m' (.blk bp0 (.cells #[.slice ra1 (List.length r.1.1) rc1, .int .i64 r.1.2] 28 (0, 0)) :: own) w' ∧ RepS (cInt .i64) m' ra1 rc1 r.1.1) {m : Mem} {own : List Piece} {w : World} {p0 : List Int × Int} {p1 : Int} {p2 : List ByteArray} {bp0 : Nat} {a1 : Option Addr} {c1 : Nat} {a2 : Option Addr} {c2 : Nat} {r : (List Int × Int) × ByteArray} (st : St m (.blk bp0 (.cells #[.slice a1 (List.length p0.1) c1, .int .i64 p0.2] 28 (0, 0)) :: own) w) (r1 : RepS (cInt .i64) m a1 c1 p0.1) (r2 : RepS cStr m a2 c2 p2) (hr : testgatemake_Expr_B N rec_testgatemake_Expr p0 p1 p2 = some r) : Calls Tryz.prog 117 #[.pointer (some ⟨bp0, 0, none⟩), .int .i64 p1, .slice a2 (List.length p2) c2] w fun e w' => ∃ (ra1 : Option Addr) (rc1 : Nat) (m' : Mem), e = .returned (.string r.2) ∧ m.le m' ∧ St m' (.blk bp0 (.cells #[.slice ra1 (List.length r.1.1) rc1, .int .i64 r.1.2] 28 (0, 0)) :: own) w' ∧ RepS (cInt .i64) m' ra1 rc1 r.1.1 := by
 unfold testgatemake_Expr_B at hr
 have hm := m.le_refl
 refine W_calls Tryz.func117 rfl Tryz.ntmps117 [(0, .pointer (some ⟨bp0, 0, none⟩)), (1, .int .i64 p1), (2, .slice a2 (List.length p2) c2)] kr rfl ?_
 refine W_sr (WO_one rfl (One_box_own (d := 3) (e := 26) (x := (.tmp 0)) (.pointer (some ⟨bp0, 0, none⟩)) kr rfl kr st ?_))
 clear st
 intro b1 w1 st
 refine WO_one rfl (One_box_own (d := 4) (e := 3) (x := (.tmp 1)) (.int .i64 p1) kr rfl kr st ?_)
 clear st
 intro b2 w2 st
 refine WO_one rfl (One_box_own (d := 5) (e := 33) (x := (.tmp 2)) (.slice a2 (List.length p2) c2) kr rfl kr st ?_)
 clear st
 intro b3 w3 st
 refine WO_seg 1 [] kr kr ?_
 refine WO_et rfl (W_seq ?_)
 refine W_sr ?_
 replace ⟨o1, hr, hrK⟩ := bindS hr
 refine WO_cut (j := 6) (fun L' w' => ∃ (a3 : Option Addr) (c3 : Nat) (m4 : Mem), L' = [(3, .pointer (some ⟨b1, 0, none⟩)), (4, .pointer (some ⟨b2, 0, none⟩)), (5, .pointer (some ⟨b3, 0, none⟩)), (15, .bool o1.1)] ∧ m.le m4 ∧ St m4 (.blk b3 (.cells #[.slice a2 (List.length p2) c2] 33 (0, 0)) :: .blk b2 (.cells #[.int .i64 p1] 3 (0, 0)) :: .blk b1 (.cells #[.pointer (some ⟨bp0, 0, none⟩)] 26 (0, 0)) :: .blk bp0 (.cells #[.slice a3 (List.length o1.2.1) c3, .int .i64 o1.2.2] 28 (0, 0)) :: own) w' ∧ RepS cStr m4 a2 c2 p2 ∧ RepS (cInt .i64) m4 a3 c3 o1.2.1) ?_ ?_
 ·clear hr st
  have hr := hrK
  clear hrK
  rintro _ w4 ⟨a3, c3, m4, rfl, hm, st, r2, r3⟩
  refine WO_et rfl (W_cond o1.1 kr ?_ ?_)
  ·intro hc
   rw [if_pos hc] at hr
   refine W_seq ?_
   refine W_sr (WO_one rfl (One_load_own (d := 16) (t := 26) (x := (.tmp 3)) (.pointer (some ⟨bp0, 0, none⟩)) kr rfl (ev (.pointer (some ⟨b1, 0, none⟩))) st.tail.tail.head kr ?_))
   have st := st.front3
   replace ⟨y2, hx2, hr⟩ := bindS hr
   refine WO_one rfl (One_fn 17 14 #[.pointer (some ⟨bp0, 0, none⟩), .int .i64 9] kr rfl ?_)
   refine (testgatemake_Tape_Next_ok st r3 hx2).mono ?_
   clear st
   rintro _ w6 ⟨a5, c5, m6, rfl, hle5, st, r5⟩
   refine ⟨_, rfl, ?_⟩
   have hm := Mem.le_trans hm hle5
   have r3 := r3.mono hle5
   have r2 := r2.mono hle5
   refine WO_et rfl ?_
   replace ⟨qu1, hr, hrKu1⟩ := bindS hr
   refine W_cut .normal (fun L' w' => ∃ (o2 : List (Int) × Int) (a6 : Option Addr) (c6 : Nat) (m7 : Mem), (.inl o2 : (List (Int) × Int) ⊕ ((List Int × Int) × ByteArray)) = qu1 ∧ L' = [(3, .pointer (some ⟨b1, 0, none⟩))] ∧ m.le m7 ∧ St m7 (.blk bp0 (.cells #[.slice a6 (List.length o2.1) c6, .int .i64 o2.2] 28 (0, 0)) :: .blk b3 (.cells #[.slice a2 (List.length p2) c2] 33 (0, 0)) :: .blk b2 (.cells #[.int .i64 p1] 3 (0, 0)) :: .blk b1 (.cells #[.pointer (some ⟨bp0, 0, none⟩)] 26 (0, 0)) :: own) w' ∧ RepS (cInt .i64) m7 a6 c6 o2.1 ∧ RepS cStr m7 a2 c2 p2) ?_ ?_
   ·clear hr st
    rintro _ w7 ⟨o2, a6, c6, m7, rfl, rfl, hm, st, r6, r2⟩
    have hr := hrKu1
    clear hrKu1
    dsimp only at hr
    refine X_then ?_
    refine W_sr (WO_one rfl (One_load_own (d := 58) (t := 26) (x := (.tmp 3)) (.pointer (some ⟨bp0, 0, none⟩)) kr rfl (ev (.pointer (some ⟨b1, 0, none⟩))) st.tail.tail.tail.head kr ?_))
    refine WO_one rfl (One_buildSlice (d := 59) (t := 22) (e := 3) (len := 8) (parts := #[(0, (.const (.int .i64 0))), (1, (.const (.int .i64 1))), (2, (.const (.int .i64 2))), (3, (.const (.int .i64 3))), (4, (.const (.int .i64 10))), (5, (.const (.int .i64 255))), (6, (.const (.int .i64 9007199254740992))), (7, (.const (.int .i64 1073741824)))]) (cInt .i64) (xs := [0, 1, 2, 3, 10, 255, 9007199254740992, 1073741824]) [.int .i64 0, .int .i64 1, .int .i64 2, .int .i64 3, .int .i64 10, .int .i64 255, .int .i64 9007199254740992, .int .i64 1073741824] kr rfl (fun _ => buildCells_run kr _) rfl rfl st ⟨[.int .i64 0], _, rfl, rfl, ⟨[.int .i64 1], _, rfl, rfl, ⟨[.int .i64 2], _, rfl, rfl, ⟨[.int .i64 3], _, rfl, rfl, ⟨[.int .i64 10], _, rfl, rfl, ⟨[.int .i64 255], _, rfl, rfl, ⟨[.int .i64 9007199254740992], _, rfl, rfl, ⟨[.int .i64 1073741824], _, rfl, rfl, rfl⟩⟩⟩⟩⟩⟩⟩⟩ ?_)
    clear st
    intro b5 m20 w23 hle17 st r17
    have hm := Mem.le_trans hm hle17
    have r6 := r6.mono hle17
    have r2 := r2.mono hle17
    have st := st.front1
    replace ⟨y13, hx21, hr⟩ := bindS hr
    refine WO_one rfl (One_fn 60 40 #[.pointer (some ⟨bp0, 0, none⟩), .slice (some ⟨b5, 0, none⟩) (List.length ([0, 1, 2, 3, 10, 255, 9007199254740992, 1073741824])) 8] kr rfl ?_)
    refine (testgatemake_Tape_Pick_ok st r6 r17 hx21).mono ?_
    clear st
    rintro _ w24 ⟨a16, c16, m21, rfl, hle18, st, r18⟩
    refine ⟨_, rfl, ?_⟩
    have hm := Mem.le_trans hm hle18
    have r17 := r17.mono hle18
    have r6 := r6.mono hle18
    have r2 := r2.mono hle18
    replace ⟨y14, hx22, hr⟩ := bindS hr
    refine WO_one rfl (One_fn 61 60 #[.int .i64 y13.2] kr rfl ?_)
    refine (testgatemake_Digits_ok st hx22).mono ?_
    clear st
    rintro _ w25 ⟨m22, rfl, hle19, st⟩
    refine ⟨_, rfl, ?_⟩
    have hm := Mem.le_trans hm hle19
    have r17 := r17.mono hle19
    have r18 := r18.mono hle19
    have r2 := r2.mono hle19
    refine WO_seg 1 [(6, .string y14)] kr kr ?_
    refine WO_end rfl ?_
    have st := st.front1
    have st := st.tail
    refine X_then ?_
    refine W_ret ?_
    refine X_then_ret ?_
    obtain rfl := Option.some.inj hr
    refine X_ret [.tmp 6] [.string y14] rfl (ResAll.cons (ResAt.tmp kr) ResAll.nil) ?_
    have st := st.front1
    have st := st.tail
    have st := st.front1
    have st := st.tail
    have st := st.front1
    have st := st.tail
    exact ⟨a16, c16, m22, rfl, hm, st, r18⟩
   ·intro Ku1
    refine W_block ?_
    refine W_seq ?_
    refine W_sr (WO_seg 2 [(18, .bool (y2.2 == 0))] kr kr ?_)
    refine WO_et rfl ?_
    replace ⟨o3, hr, hrKu2⟩ := bindS hr
    refine W_cut .normal (fun L' w' => ∃ (m8 : Mem), L' = [(3, .pointer (some ⟨b1, 0, none⟩)), (5, .pointer (some ⟨b3, 0, none⟩)), (17, .int .i64 y2.2), (18, .bool o3)] ∧ m.le m8 ∧ St m8 (.blk bp0 (.cells #[.slice a5 (List.length y2.1.1) c5, .int .i64 y2.1.2] 28 (0, 0)) :: .blk b3 (.cells #[.slice a2 (List.length p2) c2] 33 (0, 0)) :: .blk b2 (.cells #[.int .i64 p1] 3 (0, 0)) :: .blk b1 (.cells #[.pointer (some ⟨bp0, 0, none⟩)] 26 (0, 0)) :: own) w' ∧ RepS (cInt .i64) m8 a5 c5 y2.1.1 ∧ RepS cStr m8 a2 c2 p2) ?_ ?_
    ·clear hr st
     have hr := hrKu2
     clear hrKu2
     rintro _ w8 ⟨m8, rfl, hm, st, r5, r2⟩
     refine X_then ?_
     refine W_cond o3 kr ?_ ?_
     ·intro hc
      rw [if_pos hc] at hr
      refine W_sr (WO_one rfl (One_load_own (d := 21) (t := 33) (x := (.tmp 5)) (.slice a2 (List.length p2) c2) kr rfl (ev (.pointer (some ⟨b3, 0, none⟩))) st.tail.head kr ?_))
      refine WO_seg 2 [(23, .bool (decide ((List.length p2 : Int) > 0)))] kr kr ?_
      refine WO_et rfl (W_cond (decide ((List.length p2 : Int) > 0)) kr ?_ ?_)
      ·intro hc
       rw [if_pos hc] at hr
       refine W_sr (WO_one rfl (One_load_own (d := 24) (t := 26) (x := (.tmp 3)) (.pointer (some ⟨bp0, 0, none⟩)) kr rfl (ev (.pointer (some ⟨b1, 0, none⟩))) st.tail.tail.tail.head kr ?_))
       refine WO_one rfl (One_load_own (d := 25) (t := 33) (x := (.tmp 5)) (.slice a2 (List.length p2) c2) kr rfl (ev (.pointer (some ⟨b3, 0, none⟩))) st.tail.head kr ?_)
       replace ⟨y3, hx3, hr⟩ := bindS hr
       refine WO_one rfl (One_fn 26 13 #[.pointer (some ⟨bp0, 0, none⟩), .slice a2 (List.length p2) c2] kr rfl ?_)
       refine (testgatemake_Tape_One_ok st r5 r2 hx3).mono ?_
       clear st
       rintro _ w9 ⟨a7, c7, m9, rfl, hle6, st, r7⟩
       refine ⟨_, rfl, ?_⟩
       have hm := Mem.le_trans hm hle6
       have r2 := r2.mono hle6
       have r5 := r5.mono hle6
       refine WO_seg 1 [(6, .string y3.2)] kr kr ?_
       refine WO_et rfl (W_ret ?_)
       refine X_block_ret ?_
       obtain rfl := Option.some.inj hr
       have hr := hrKu1
       try dsimp only at hr
       refine X_then_ret ?_
       refine X_then_ret ?_
       obtain rfl := Option.some.inj hr
       refine X_ret [.tmp 6] [.string y3.2] rfl (ResAll.cons (ResAt.tmp kr) ResAll.nil) ?_
       have st := st.front1
       have st := st.tail
       have st := st.front1
       have st := st.tail
       have st := st.front1
       have st := st.tail
       exact ⟨a7, c7, m9, rfl, hm, st, r7⟩
      ·intro hc
       rw [if_neg (not_true hc)] at hr
       refine W_skip ?_
       refine X_block ?_
       have hqu1 := Option.some.inj hr
       have st := st.front3.front3.front3.front3
       exact X_env _ kr (Ku1 _ _ ⟨(y2.1.1, y2.1.2), a5, c5, m8, hqu1, rfl, hm, st, r5, r2⟩)
     ·intro hc
      rw [if_neg (not_true hc)] at hr
      refine W_sr (WO_seg 2 [(27, .bool (y2.2 == 2))] kr kr ?_)
      refine WO_et rfl (W_cond (y2.2 == 2) kr ?_ ?_)
      ·intro hc
       rw [if_pos hc] at hr
       refine W_seq ?_
       refine W_draw [(6, fun w' => Inv m8 w' ∧ Piece.holds m8 w' (.blk b1 (.cells #[.pointer (some ⟨bp0, 0, none⟩)] 26 (0, 0))) ∧ True)] kr st ?_
       clear st
       intro w10 _ st
       have hmS1 := m8.le_refl
       refine ⟨⟨.inr ⟨Inv.anti st.inv hmS1, Piece.holds_anti st.tail.tail.tail.head hmS1, trivial⟩, trivial⟩, ?_⟩
       refine WA_load_own (t := 26) (x := (.tmp 3)) 0 29 (.pointer (some ⟨bp0, 0, none⟩)) kr rfl kr (.head _) (QP_then (QP_block (QP_then (QP_then QP_body)))) (fun _ h => h.2.1) (ev (.pointer (some ⟨b1, 0, none⟩))) kr ?_
       replace ⟨y4, hx4, hr⟩ := bindS hr
       refine WA_one 1 kr  (One_fn 30 105 #[] kr rfl ?_)
       refine (testgatemake_Paths_ok st hx4).mono ?_
       clear st
       rintro _ w11 ⟨a8, c8, m10, rfl, hle7, st, r8⟩
       refine ⟨_, rfl, ?_⟩
       have hm := Mem.le_trans hm hle7
       have r5 := r5.mono hle7
       have r2 := r2.mono hle7
       have hmS1 := Mem.le_trans hmS1 hle7
       refine ⟨⟨.inr ⟨Inv.anti st.inv hmS1, Piece.holds_anti st.tail.tail.tail.tail.head hmS1, trivial⟩, trivial⟩, ?_⟩
       have st := st.front1
       replace ⟨y5, hx5, hr⟩ := bindS hr
       refine WA_one 2 kr  (One_fn 31 13 #[.pointer (some ⟨bp0, 0, none⟩), .slice a8 (List.length y4) c8] kr rfl ?_)
       refine (testgatemake_Tape_One_ok st r5 r8 hx5).mono ?_
       clear st
       rintro _ w12 ⟨a9, c9, m11, rfl, hle8, st, r9⟩
       refine ⟨_, rfl, ?_⟩
       have hm := Mem.le_trans hm hle8
       have r8 := r8.mono hle8
       have r5 := r5.mono hle8
       have r2 := r2.mono hle8
       have hmS1 := Mem.le_trans hmS1 hle8
       refine ⟨⟨.inr ⟨Inv.anti st.inv hmS1, Piece.holds_anti st.tail.tail.tail.tail.head hmS1, trivial⟩, trivial⟩, ?_⟩
       replace ⟨s1, hx6, hr⟩ := bindS hr
       refine WA_cat (t := 9) (t2 := 9) (x := (.const (.string (⟨#[115, 105, 122, 101, 40, 34]⟩ : ByteArray)))) (y := (.tmp 31)) 3 32 kr rfl kr (.head _) (QP_then (QP_block (QP_then (QP_then QP_body)))) (ev (.string (⟨#[115, 105, 122, 101, 40, 34]⟩ : ByteArray))) (ev (.string y5.2)) hx6 ?_
       replace ⟨s2, hx7, hr⟩ := bindS hr
       refine WA_cat (t := 9) (t2 := 9) (x := (.tmp 32)) (y := (.const (.string (⟨#[34, 41]⟩ : ByteArray)))) 4 33 kr rfl kr (.head _) (QP_then (QP_block (QP_then (QP_then QP_body)))) (ev (.string s1)) (ev (.string (⟨#[34, 41]⟩ : ByteArray))) hx7 ?_
       refine WA_pure 5 6 (.string s2) kr rfl kr (.head _) (QP_then (QP_block (QP_then (QP_then QP_body)))) ?_
       refine WA_done kr ?_
       have st := st.front1
       have st := st.tail
       refine X_then ?_
       refine W_ret ?_
       refine X_block_ret ?_
       obtain rfl := Option.some.inj hr
       have hr := hrKu1
       try dsimp only at hr
       refine X_then_ret ?_
       refine X_then_ret ?_
       obtain rfl := Option.some.inj hr
       refine X_ret [.tmp 6] [.string s2] rfl (ResAll.cons (ResAt.tmp kr) ResAll.nil) ?_
       have st := st.front1
       have st := st.tail
       have st := st.front1
       have st := st.tail
       have st := st.front1
       have st := st.tail
       exact ⟨a9, c9, m11, rfl, hm, st, r9⟩
      ·intro hc
       rw [if_neg (not_true hc)] at hr
       refine W_sr (WO_seg 2 [(34, .bool (y2.2 == 3))] kr kr ?_)
       refine WO_et rfl (W_cond (y2.2 == 3) kr ?_ ?_)
       ·intro hc
        rw [if_pos hc] at hr
        refine W_seq ?_
        refine W_draw [(6, fun w' => Inv m8 w' ∧ Piece.holds m8 w' (.blk b1 (.cells #[.pointer (some ⟨bp0, 0, none⟩)] 26 (0, 0))) ∧ True)] kr st ?_
        clear st
        intro w13 _ st
        have hmS2 := m8.le_refl
        refine ⟨⟨.inr ⟨Inv.anti st.inv hmS2, Piece.holds_anti st.tail.tail.tail.head hmS2, trivial⟩, trivial⟩, ?_⟩
        refine WA_load_own (t := 26) (x := (.tmp 3)) 0 36 (.pointer (some ⟨bp0, 0, none⟩)) kr rfl kr (.head _) (QP_then (QP_block (QP_then (QP_then QP_body)))) (fun _ h => h.2.1) (ev (.pointer (some ⟨b1, 0, none⟩))) kr ?_
        replace ⟨y6, hx8, hr⟩ := bindS hr
        refine WA_one 1 kr  (One_fn 37 105 #[] kr rfl ?_)
        refine (testgatemake_Paths_ok st hx8).mono ?_
        clear st
        rintro _ w14 ⟨a10, c10, m12, rfl, hle9, st, r10⟩
        refine ⟨_, rfl, ?_⟩
        have hm := Mem.le_trans hm hle9
        have r5 := r5.mono hle9
        have r2 := r2.mono hle9
        have hmS2 := Mem.le_trans hmS2 hle9
        refine ⟨⟨.inr ⟨Inv.anti st.inv hmS2, Piece.holds_anti st.tail.tail.tail.tail.head hmS2, trivial⟩, trivial⟩, ?_⟩
        have st := st.front1
        replace ⟨y7, hx9, hr⟩ := bindS hr
        refine WA_one 2 kr  (One_fn 38 13 #[.pointer (some ⟨bp0, 0, none⟩), .slice a10 (List.length y6) c10] kr rfl ?_)
        refine (testgatemake_Tape_One_ok st r5 r10 hx9).mono ?_
        clear st
        rintro _ w15 ⟨a11, c11, m13, rfl, hle10, st, r11⟩
        refine ⟨_, rfl, ?_⟩
        have hm := Mem.le_trans hm hle10
        have r10 := r10.mono hle10
        have r5 := r5.mono hle10
        have r2 := r2.mono hle10
        have hmS2 := Mem.le_trans hmS2 hle10
        refine ⟨⟨.inr ⟨Inv.anti st.inv hmS2, Piece.holds_anti st.tail.tail.tail.tail.head hmS2, trivial⟩, trivial⟩, ?_⟩
        replace ⟨s3, hx10, hr⟩ := bindS hr
        refine WA_cat (t := 9) (t2 := 9) (x := (.const (.string (⟨#[104, 97, 115, 40, 34]⟩ : ByteArray)))) (y := (.tmp 38)) 3 39 kr rfl kr (.head _) (QP_then (QP_block (QP_then (QP_then QP_body)))) (ev (.string (⟨#[104, 97, 115, 40, 34]⟩ : ByteArray))) (ev (.string y7.2)) hx10 ?_
        replace ⟨s4, hx11, hr⟩ := bindS hr
        refine WA_cat (t := 9) (t2 := 9) (x := (.tmp 39)) (y := (.const (.string (⟨#[34, 41]⟩ : ByteArray)))) 4 40 kr rfl kr (.head _) (QP_then (QP_block (QP_then (QP_then QP_body)))) (ev (.string s3)) (ev (.string (⟨#[34, 41]⟩ : ByteArray))) hx11 ?_
        refine WA_pure 5 6 (.string s4) kr rfl kr (.head _) (QP_then (QP_block (QP_then (QP_then QP_body)))) ?_
        refine WA_done kr ?_
        have st := st.front1
        have st := st.tail
        refine X_then ?_
        refine W_ret ?_
        refine X_block_ret ?_
        obtain rfl := Option.some.inj hr
        have hr := hrKu1
        try dsimp only at hr
        refine X_then_ret ?_
        refine X_then_ret ?_
        obtain rfl := Option.some.inj hr
        refine X_ret [.tmp 6] [.string s4] rfl (ResAll.cons (ResAt.tmp kr) ResAll.nil) ?_
        have st := st.front1
        have st := st.tail
        have st := st.front1
        have st := st.tail
        have st := st.front1
        have st := st.tail
        exact ⟨a11, c11, m13, rfl, hm, st, r11⟩
       ·intro hc
        rw [if_neg (not_true hc)] at hr
        refine W_sr (WO_seg 2 [(41, .bool (y2.2 == 4))] kr kr ?_)
        refine WO_et rfl (W_cond (y2.2 == 4) kr ?_ ?_)
        ·intro hc
         rw [if_pos hc] at hr
         refine W_seq ?_
         refine W_draw [(6, fun w' => Inv m8 w' ∧ Piece.holds m8 w' (.blk b1 (.cells #[.pointer (some ⟨bp0, 0, none⟩)] 26 (0, 0))) ∧ True)] kr st ?_
         clear st
         intro w16 _ st
         have hmS3 := m8.le_refl
         refine ⟨⟨.inr ⟨Inv.anti st.inv hmS3, Piece.holds_anti st.tail.tail.tail.head hmS3, trivial⟩, trivial⟩, ?_⟩
         refine WA_load_own (t := 26) (x := (.tmp 3)) 0 43 (.pointer (some ⟨bp0, 0, none⟩)) kr rfl kr (.head _) (QP_then (QP_block (QP_then (QP_then QP_body)))) (fun _ h => h.2.1) (ev (.pointer (some ⟨b1, 0, none⟩))) kr ?_
         replace ⟨y8, hx12, hr⟩ := bindS hr
         refine WA_one 1 kr  (One_fn 44 106 #[] kr rfl ?_)
         refine (testgatemake_Variables_ok st hx12).mono ?_
         clear st
         rintro _ w17 ⟨a12, c12, m14, rfl, hle11, st, r12⟩
         refine ⟨_, rfl, ?_⟩
         have hm := Mem.le_trans hm hle11
         have r5 := r5.mono hle11
         have r2 := r2.mono hle11
         have hmS3 := Mem.le_trans hmS3 hle11
         refine ⟨⟨.inr ⟨Inv.anti st.inv hmS3, Piece.holds_anti st.tail.tail.tail.tail.head hmS3, trivial⟩, trivial⟩, ?_⟩
         have st := st.front1
         replace ⟨y9, hx13, hr⟩ := bindS hr
         refine WA_one 2 kr  (One_fn 45 13 #[.pointer (some ⟨bp0, 0, none⟩), .slice a12 (List.length y8) c12] kr rfl ?_)
         refine (testgatemake_Tape_One_ok st r5 r12 hx13).mono ?_
         clear st
         rintro _ w18 ⟨a13, c13, m15, rfl, hle12, st, r13⟩
         refine ⟨_, rfl, ?_⟩
         have hm := Mem.le_trans hm hle12
         have r12 := r12.mono hle12
         have r5 := r5.mono hle12
         have r2 := r2.mono hle12
         have hmS3 := Mem.le_trans hmS3 hle12
         refine ⟨⟨.inr ⟨Inv.anti st.inv hmS3, Piece.holds_anti st.tail.tail.tail.tail.head hmS3, trivial⟩, trivial⟩, ?_⟩
         replace ⟨s5, hx14, hr⟩ := bindS hr
         refine WA_cat (t := 9) (t2 := 9) (x := (.const (.string (⟨#[101, 110, 118, 40, 34]⟩ : ByteArray)))) (y := (.tmp 45)) 3 46 kr rfl kr (.head _) (QP_then (QP_block (QP_then (QP_then QP_body)))) (ev (.string (⟨#[101, 110, 118, 40, 34]⟩ : ByteArray))) (ev (.string y9.2)) hx14 ?_
         replace ⟨s6, hx15, hr⟩ := bindS hr
         refine WA_cat (t := 9) (t2 := 9) (x := (.tmp 46)) (y := (.const (.string (⟨#[34, 41]⟩ : ByteArray)))) 4 47 kr rfl kr (.head _) (QP_then (QP_block (QP_then (QP_then QP_body)))) (ev (.string s5)) (ev (.string (⟨#[34, 41]⟩ : ByteArray))) hx15 ?_
         refine WA_pure 5 6 (.string s6) kr rfl kr (.head _) (QP_then (QP_block (QP_then (QP_then QP_body)))) ?_
         refine WA_done kr ?_
         have st := st.front1
         have st := st.tail
         refine X_then ?_
         refine W_ret ?_
         refine X_block_ret ?_
         obtain rfl := Option.some.inj hr
         have hr := hrKu1
         try dsimp only at hr
         refine X_then_ret ?_
         refine X_then_ret ?_
         obtain rfl := Option.some.inj hr
         refine X_ret [.tmp 6] [.string s6] rfl (ResAll.cons (ResAt.tmp kr) ResAll.nil) ?_
         have st := st.front1
         have st := st.tail
         have st := st.front1
         have st := st.tail
         have st := st.front1
         have st := st.tail
         exact ⟨a13, c13, m15, rfl, hm, st, r13⟩
        ·intro hc
         rw [if_neg (not_true hc)] at hr
         refine W_sr (WO_seg 2 [(48, .bool (y2.2 == 5))] kr kr ?_)
         refine WO_et rfl (W_cond (y2.2 == 5) kr ?_ ?_)
         ·intro hc
          rw [if_pos hc] at hr
          refine W_sr (WO_one rfl (One_load_own (d := 50) (t := 26) (x := (.tmp 3)) (.pointer (some ⟨bp0, 0, none⟩)) kr rfl (ev (.pointer (some ⟨b1, 0, none⟩))) st.tail.tail.tail.head kr ?_))
          replace ⟨y10, hx16, hr⟩ := bindS hr
          refine WO_one rfl (One_fn 51 29 #[.pointer (some ⟨bp0, 0, none⟩), .int .i64 1, .int .i64 5] kr rfl ?_)
          refine (testgatemake_Tape_Chance_ok st r5 hx16).mono ?_
          clear st
          rintro _ w19 ⟨a14, c14, m16, rfl, hle13, st, r14⟩
          refine ⟨_, rfl, ?_⟩
          have hm := Mem.le_trans hm hle13
          have r5 := r5.mono hle13
          have r2 := r2.mono hle13
          refine WO_et rfl (W_cond y10.2 kr ?_ ?_)
          ·intro hc
           rw [if_pos hc] at hr
           refine W_sr (WO_one rfl (One_load_own (d := 52) (t := 26) (x := (.tmp 3)) (.pointer (some ⟨bp0, 0, none⟩)) kr rfl (ev (.pointer (some ⟨b1, 0, none⟩))) st.tail.tail.tail.head kr ?_))
           refine WO_one rfl (One_buildSlice (d := 53) (t := 22) (e := 3) (len := 3) (parts := #[(0, (.const (.int .i64 0))), (1, (.const (.int .i64 1))), (2, (.const (.int .i64 63)))]) (cInt .i64) (xs := [0, 1, 63]) [.int .i64 0, .int .i64 1, .int .i64 63] kr rfl (fun _ => buildCells_run kr _) rfl rfl st ⟨[.int .i64 0], _, rfl, rfl, ⟨[.int .i64 1], _, rfl, rfl, ⟨[.int .i64 63], _, rfl, rfl, rfl⟩⟩⟩ ?_)
           clear st
           intro b4 m17 w20 hle14 st r15
           have hm := Mem.le_trans hm hle14
           have r14 := r14.mono hle14
           have r2 := r2.mono hle14
           have st := st.front1
           replace ⟨y11, hx17, hr⟩ := bindS hr
           refine WO_one rfl (One_fn 54 40 #[.pointer (some ⟨bp0, 0, none⟩), .slice (some ⟨b4, 0, none⟩) (List.length ([0, 1, 63])) 3] kr rfl ?_)
           refine (testgatemake_Tape_Pick_ok st r14 r15 hx17).mono ?_
           clear st
           rintro _ w21 ⟨a15, c15, m18, rfl, hle15, st, r16⟩
           refine ⟨_, rfl, ?_⟩
           have hm := Mem.le_trans hm hle15
           have r15 := r15.mono hle15
           have r14 := r14.mono hle15
           have r2 := r2.mono hle15
           replace ⟨y12, hx18, hr⟩ := bindS hr
           refine WO_one rfl (One_fn 55 60 #[.int .i64 y11.2] kr rfl ?_)
           refine (testgatemake_Digits_ok st hx18).mono ?_
           clear st
           rintro _ w22 ⟨m19, rfl, hle16, st⟩
           refine ⟨_, rfl, ?_⟩
           have hm := Mem.le_trans hm hle16
           have r15 := r15.mono hle16
           have r16 := r16.mono hle16
           have r2 := r2.mono hle16
           replace ⟨s7, hx19, hr⟩ := bindS hr
           refine WO_one rfl (One_cat (d := 56) (t := 9) (t2 := 9) (x := (.const (.string (⟨#[102, 108, 105, 112, 40]⟩ : ByteArray)))) (y := (.tmp 55)) kr rfl (ev (.string (⟨#[102, 108, 105, 112, 40]⟩ : ByteArray))) (ev (.string y12)) hx19 ?_)
           replace ⟨s8, hx20, hr⟩ := bindS hr
           refine WO_one rfl (One_cat (d := 57) (t := 9) (t2 := 9) (x := (.tmp 56)) (y := (.const (.string (⟨#[41]⟩ : ByteArray)))) kr rfl (ev (.string s7)) (ev (.string (⟨#[41]⟩ : ByteArray))) hx20 ?_)
           refine WO_seg 1 [(6, .string s8)] kr kr ?_
           refine WO_end rfl ?_
           have st := st.front1
           have st := st.tail
           refine X_then ?_
           refine W_ret ?_
           refine X_block_ret ?_
           obtain rfl := Option.some.inj hr
           have hr := hrKu1
           try dsimp only at hr
           refine X_then_ret ?_
           refine X_then_ret ?_
           obtain rfl := Option.some.inj hr
           refine X_ret [.tmp 6] [.string s8] rfl (ResAll.cons (ResAt.tmp kr) ResAll.nil) ?_
           have st := st.front1
           have st := st.tail
           have st := st.front1
           have st := st.tail
           have st := st.front1
           have st := st.tail
           exact ⟨a15, c15, m19, rfl, hm, st, r16⟩
          ·intro hc
           rw [if_neg (not_true hc)] at hr
           refine W_skip ?_
           refine X_block ?_
           have hqu1 := Option.some.inj hr
           have st := st.front3.front3.front3.front3
           exact X_env _ kr (Ku1 _ _ ⟨(y10.1.1, y10.1.2), a14, c14, m16, hqu1, rfl, hm, st, r14, r2⟩)
         ·intro hc
          rw [if_neg (not_true hc)] at hr
          refine W_skip ?_
          refine X_block ?_
          have hqu1 := Option.some.inj hr
          have st := st.front3.front3.front3.front3
          exact X_env _ kr (Ku1 _ _ ⟨(y2.1.1, y2.1.2), a5, c5, m8, hqu1, rfl, hm, st, r5, r2⟩)
    ·intro Ku2
     clear hrKu2
     refine W_cond (y2.2 == 0) kr ?_ ?_
     ·intro hc
      rw [if_pos hc] at hr
      refine W_skip ?_
      obtain rfl := Option.some.inj hr
      have st := st.front3.front3.front3.front3
      exact X_env _ kr (Ku2 _ _ ⟨m6, rfl, hm, st, r5, r2⟩)
     ·intro hc
      rw [if_neg (not_true hc)] at hr
      refine W_region ?_
      refine WO_seg 2 [(18, .bool (y2.2 == 1))] kr kr ?_
      refine WO_end rfl ?_
      obtain rfl := Option.some.inj hr
      have st := st.front3.front3.front3.front3
      exact X_env _ kr (Ku2 _ _ ⟨m6, rfl, hm, st, r5, r2⟩)
  ·intro hc
   rw [if_neg (not_true hc)] at hr
   refine W_skip ?_
   refine X_then ?_
   refine W_sr (WO_seg 2 [(7, .func (.func 146) #[] #[.pointer (some ⟨b1, 0, none⟩), .pointer (some ⟨b2, 0, none⟩), .pointer (some ⟨b3, 0, none⟩)])] kr kr ?_)
   refine WO_et rfl (W_seq ?_)
   refine W_sr (WO_one rfl (One_load_own (d := 63) (t := 26) (x := (.tmp 3)) (.pointer (some ⟨bp0, 0, none⟩)) kr rfl (ev (.pointer (some ⟨b1, 0, none⟩))) st.tail.tail.head kr ?_))
   have st := st.front3
   replace ⟨y15, hx23, hr⟩ := bindS hr
   refine WO_one rfl (One_fn 64 14 #[.pointer (some ⟨bp0, 0, none⟩), .int .i64 10] kr rfl ?_)
   refine (testgatemake_Tape_Next_ok st r3 hx23).mono ?_
   clear st
   rintro _ w26 ⟨a17, c17, m23, rfl, hle20, st, r19⟩
   refine ⟨_, rfl, ?_⟩
   have hm := Mem.le_trans hm hle20
   have r3 := r3.mono hle20
   have r2 := r2.mono hle20
   refine WO_et rfl (W_block ?_)
   refine W_seq ?_
   refine W_sr (WO_seg 2 [(65, .bool (y15.2 == 0))] kr kr ?_)
   refine WO_et rfl ?_
   replace ⟨o4, hr, hrKu3⟩ := bindS hr
   refine W_cut .normal (fun L' w' => ∃ (m24 : Mem), L' = [(3, .pointer (some ⟨b1, 0, none⟩)), (7, .func (.func 146) #[] #[.pointer (some ⟨b1, 0, none⟩), .pointer (some ⟨b2, 0, none⟩), .pointer (some ⟨b3, 0, none⟩)]), (64, .int .i64 y15.2), (65, .bool o4)] ∧ m.le m24 ∧ St m24 (.blk bp0 (.cells #[.slice a17 (List.length y15.1.1) c17, .int .i64 y15.1.2] 28 (0, 0)) :: .blk b3 (.cells #[.slice a2 (List.length p2) c2] 33 (0, 0)) :: .blk b2 (.cells #[.int .i64 p1] 3 (0, 0)) :: .blk b1 (.cells #[.pointer (some ⟨bp0, 0, none⟩)] 26 (0, 0)) :: own) w' ∧ RepS (cInt .i64) m24 a17 c17 y15.1.1 ∧ RepS cStr m24 a2 c2 p2) ?_ ?_
   ·clear hr st
    have hr := hrKu3
    clear hrKu3
    rintro _ w27 ⟨m24, rfl, hm, st, r19, r2⟩
    refine X_then ?_
    refine W_cond o4 kr ?_ ?_
    ·intro hc
     rw [if_pos hc] at hr
     refine W_seq ?_
     refine W_draw [(8, fun w' => Inv m24 w' ∧ Piece.holds m24 w' (.blk b1 (.cells #[.pointer (some ⟨bp0, 0, none⟩)] 26 (0, 0))) ∧ True)] kr st ?_
     clear st
     intro w28 _ st
     have hmS4 := m24.le_refl
     refine ⟨⟨.inr ⟨Inv.anti st.inv hmS4, Piece.holds_anti st.tail.tail.tail.head hmS4, trivial⟩, trivial⟩, ?_⟩
     refine WA_load_own (t := 26) (x := (.tmp 3)) 0 69 (.pointer (some ⟨bp0, 0, none⟩)) kr rfl kr (.head _) (QP_then (QP_block (QP_then QP_body))) (fun _ h => h.2.1) (ev (.pointer (some ⟨b1, 0, none⟩))) kr ?_
     refine WA_pure 4 73 (.func (.func 146) #[] #[.pointer (some ⟨b1, 0, none⟩), .pointer (some ⟨b2, 0, none⟩), .pointer (some ⟨b3, 0, none⟩)]) kr rfl kr (.head _) (QP_then (QP_block (QP_then QP_body))) ?_
     replace ⟨y16, hx24, hr⟩ := bindS hr
     refine WA_one 1 kr  (One_fn 70 21 #[] kr rfl ?_)
     refine (testgatemake_Functions_ok st hx24).mono ?_
     clear st
     rintro _ w29 ⟨a18, c18, m25, rfl, hle21, st, r20⟩
     refine ⟨_, rfl, ?_⟩
     have hm := Mem.le_trans hm hle21
     have r19 := r19.mono hle21
     have r2 := r2.mono hle21
     have hmS4 := Mem.le_trans hmS4 hle21
     refine ⟨⟨.inr ⟨Inv.anti st.inv hmS4, Piece.holds_anti st.tail.tail.tail.tail.head hmS4, trivial⟩, trivial⟩, ?_⟩
     have st := st.front1
     replace ⟨y17, hx25, hr⟩ := bindS hr
     refine WA_one 2 kr  (One_fn 71 13 #[.pointer (some ⟨bp0, 0, none⟩), .slice a18 (List.length y16) c18] kr rfl ?_)
     refine (testgatemake_Tape_One_ok st r19 r20 hx25).mono ?_
     clear st
     rintro _ w30 ⟨a19, c19, m26, rfl, hle22, st, r21⟩
     refine ⟨_, rfl, ?_⟩
     have hm := Mem.le_trans hm hle22
     have r20 := r20.mono hle22
     have r19 := r19.mono hle22
     have r2 := r2.mono hle22
     have hmS4 := Mem.le_trans hmS4 hle22
     refine ⟨⟨.inr ⟨Inv.anti st.inv hmS4, Piece.holds_anti st.tail.tail.tail.tail.head hmS4, trivial⟩, trivial⟩, ?_⟩
     replace ⟨s9, hx26, hr⟩ := bindS hr
     refine WA_cat (t := 9) (t2 := 9) (x := (.tmp 71)) (y := (.const (.string (⟨#[40]⟩ : ByteArray)))) 3 72 kr rfl kr (.head _) (QP_then (QP_block (QP_then QP_body))) (ev (.string y17.2)) (ev (.string (⟨#[40]⟩ : ByteArray))) hx26 ?_
     refine WA_one 5 kr  (One_fn 74 146 #[.pointer (some ⟨b1, 0, none⟩), .pointer (some ⟨b2, 0, none⟩), .pointer (some ⟨b3, 0, none⟩)] kr rfl ?_)
     refine W_calls Tryz.func146 rfl Tryz.ntmps146 [(0, .pointer (some ⟨b1, 0, none⟩)), (1, .pointer (some ⟨b2, 0, none⟩)), (2, .pointer (some ⟨b3, 0, none⟩))] kr rfl ?_
     refine W_sr (WO_seg 1 [] kr kr ?_)
     refine WO_et rfl (W_sr ?_)
     refine WO_one rfl (One_load_own (d := 4) (t := 26) (x := (.tmp 0)) (.pointer (some ⟨bp0, 0, none⟩)) kr rfl (ev (.pointer (some ⟨b1, 0, none⟩))) st.tail.tail.tail.tail.head kr ?_)
     refine WO_one rfl (One_load_own (d := 5) (t := 3) (x := (.tmp 1)) (.int .i64 p1) kr rfl (ev (.pointer (some ⟨b2, 0, none⟩))) st.tail.tail.tail.head kr ?_)
     refine WO_seg 1 [(6, .int .i64 (IntKind.wrap .i64 (p1 - 1)))] kr kr ?_
     refine WO_one rfl (One_load_own (d := 7) (t := 33) (x := (.tmp 2)) (.slice a2 (List.length p2) c2) kr rfl (ev (.pointer (some ⟨b3, 0, none⟩))) st.tail.tail.head kr ?_)
     replace ⟨y18, hx27, hr⟩ := bindS hr
     refine WO_one rfl (One_fn 8 117 #[.pointer (some ⟨bp0, 0, none⟩), .int .i64 (IntKind.wrap .i64 (p1 - 1)), .slice a2 (List.length p2) c2] kr rfl ?_)
     refine (ih_testgatemake_Expr st r21 r2 hx27).mono ?_
     clear st
     rintro _ w31 ⟨a20, c20, m27, rfl, hle23, st, r22⟩
     refine ⟨_, rfl, ?_⟩
     have hm := Mem.le_trans hm hle23
     have r2 := r2.mono hle23
     have r20 := r20.mono hle23
     have r21 := r21.mono hle23
     have hmS4 := Mem.le_trans hmS4 hle23
     refine WO_seg 1 [(3, .string y18.2)] kr kr ?_
     refine WO_et rfl (W_ret ?_)
     refine X_ret [.tmp 3] [.string y18.2] rfl (ResAll.cons (ResAt.tmp kr) ResAll.nil) ?_
     refine ⟨_, rfl, ?_⟩
     refine ⟨⟨.inr ⟨Inv.anti st.inv hmS4, Piece.holds_anti st.tail.tail.tail.tail.head hmS4, trivial⟩, trivial⟩, ?_⟩
     replace ⟨s10, hx28, hr⟩ := bindS hr
     refine WA_cat (t := 9) (t2 := 9) (x := (.tmp 72)) (y := (.tmp 74)) 6 75 kr rfl kr (.head _) (QP_then (QP_block (QP_then QP_body))) (ev (.string s9)) (ev (.string y18.2)) hx28 ?_
     refine WA_pure 7 8 (.string s10) kr rfl kr (.head _) (QP_then (QP_block (QP_then QP_body))) ?_
     refine WA_done kr ?_
     have st := st.front1
     have st := st.tail
     refine X_then ?_
     refine W_seq ?_
     refine W_sr (WO_one rfl (One_load_own (d := 76) (t := 26) (x := (.tmp 3)) (.pointer (some ⟨bp0, 0, none⟩)) kr rfl (ev (.pointer (some ⟨b1, 0, none⟩))) st.tail.tail.tail.head kr ?_))
     refine WO_one rfl (One_buildSlice (d := 77) (t := 22) (e := 3) (len := 4) (parts := #[(0, (.const (.int .i64 0))), (1, (.const (.int .i64 0))), (2, (.const (.int .i64 0))), (3, (.const (.int .i64 1)))]) (cInt .i64) (xs := [0, 0, 0, 1]) [.int .i64 0, .int .i64 0, .int .i64 0, .int .i64 1] kr rfl (fun _ => buildCells_run kr _) rfl rfl st ⟨[.int .i64 0], _, rfl, rfl, ⟨[.int .i64 0], _, rfl, rfl, ⟨[.int .i64 0], _, rfl, rfl, ⟨[.int .i64 1], _, rfl, rfl, rfl⟩⟩⟩⟩ ?_)
     clear st
     intro b6 m28 w32 hle24 st r23
     have hm := Mem.le_trans hm hle24
     have r22 := r22.mono hle24
     have r2 := r2.mono hle24
     have st := st.front1
     replace ⟨y19, hx29, hr⟩ := bindS hr
     refine WO_one rfl (One_fn 78 40 #[.pointer (some ⟨bp0, 0, none⟩), .slice (some ⟨b6, 0, none⟩) (List.length ([0, 0, 0, 1])) 4] kr rfl ?_)
     refine (testgatemake_Tape_Pick_ok st r22 r23 hx29).mono ?_
     clear st
     rintro _ w33 ⟨a21, c21, m29, rfl, hle25, st, r24⟩
     refine ⟨_, rfl, ?_⟩
     have hm := Mem.le_trans hm hle25
     have r23 := r23.mono hle25
     have r22 := r22.mono hle25
     have r2 := r2.mono hle25
     refine WO_seg 1 [(9, .int .i64 y19.2)] kr kr ?_
     refine WO_end rfl ?_
     have st := st.front1
     have st := st.tail
     refine X_then ?_
     refine W_block ?_
     replace ⟨out1, hr, hrKu4⟩ := bindS hr
     refine W_cut (.exit 2) (fun L' w' => ∃ (o5 : ByteArray × List (Int) × Int) (a22 : Option Addr) (c22 : Nat) (m30 : Mem), o5 = out1 ∧ L' = [(8, .string o5.1)] ∧ m.le m30 ∧ St m30 (.blk bp0 (.cells #[.slice a22 (List.length o5.2.1) c22, .int .i64 o5.2.2] 28 (0, 0)) :: .blk b3 (.cells #[.slice a2 (List.length p2) c2] 33 (0, 0)) :: .blk b2 (.cells #[.int .i64 p1] 3 (0, 0)) :: .blk b1 (.cells #[.pointer (some ⟨bp0, 0, none⟩)] 26 (0, 0)) :: own) w' ∧ RepS (cInt .i64) m30 a22 c22 o5.2.1 ∧ RepS cStr m30 a2 c2 p2) ?_ ?_
     ·clear hr st
      rintro _ w34 ⟨o5, a22, c22, m30, rfl, rfl, hm, st, r25, r2⟩
      have hr := hrKu4
      clear hrKu4
      refine X_block_eq ?_
      refine X_then ?_
      refine W_sr (WO_seg 1 [(88, .string o5.1)] kr kr ?_)
      replace ⟨s14, hx33, hr⟩ := bindS hr
      refine WO_one rfl (One_cat (d := 89) (t := 9) (t2 := 9) (x := (.tmp 88)) (y := (.const (.string (⟨#[41]⟩ : ByteArray)))) kr rfl (ev (.string o5.1)) (ev (.string (⟨#[41]⟩ : ByteArray))) hx33 ?_)
      refine WO_seg 1 [(6, .string s14)] kr kr ?_
      refine WO_et rfl (W_ret ?_)
      refine X_block_ret ?_
      refine X_then_ret ?_
      obtain rfl := Option.some.inj hr
      refine X_ret [.tmp 6] [.string s14] rfl (ResAll.cons (ResAt.tmp kr) ResAll.nil) ?_
      have st := st.front1
      have st := st.tail
      have st := st.front1
      have st := st.tail
      have st := st.front1
      have st := st.tail
      exact ⟨a22, c22, m30, rfl, hm, st, r25⟩
     intro K2_u4
     clear hrKu4
     have st := st.front3.front3.front3.front3
     refine W_env _ kr (W_loop (fun k1 L' w' => ∃ (s11 : ByteArray × Int × List (Int) × Int) (a23 : Option Addr) (c23 : Nat) (m31 : Mem), loopM (testgatemake_Expr_L1 N rec_testgatemake_Expr p1 p2) k1 s11 = some out1 ∧ L' = [(7, .func (.func 146) #[] #[.pointer (some ⟨b1, 0, none⟩), .pointer (some ⟨b2, 0, none⟩), .pointer (some ⟨b3, 0, none⟩)]), (8, .string s11.1), (9, .int .i64 s11.2.1)] ∧ m.le m31 ∧ St m31 (.blk bp0 (.cells #[.slice a23 (List.length s11.2.2.1) c23, .int .i64 s11.2.2.2] 28 (0, 0)) :: .blk b3 (.cells #[.slice a2 (List.length p2) c2] 33 (0, 0)) :: .blk b2 (.cells #[.int .i64 p1] 3 (0, 0)) :: .blk b1 (.cells #[.pointer (some ⟨bp0, 0, none⟩)] 26 (0, 0)) :: own) w' ∧ RepS (cInt .i64) m31 a23 c23 s11.2.2.1 ∧ RepS cStr m31 a2 c2 p2) N ⟨(s10, y19.2, y19.1.1, y19.1.2), a21, c21, m29, hr, rfl, hm, st, r24, r2⟩ ?_)
     clear st hr
     rintro k1 _ w35 ⟨s11, a23, c23, m31, hL, rfl, hm, st, r26, r2⟩
     rcases k1 with _ | k1
     ·exact loopM_zero hL
     ·obtain ⟨qu4, hr, hSu4, hBu4⟩ := loopM_succ hL
      clear hL
      unfold testgatemake_Expr_L1 at hr
      refine W_seq ?_
      refine W_sr (WO_seg 2 [(80, .bool (decide (s11.2.1 > 0)))] kr kr ?_)
      refine WO_et rfl (W_cond (decide (s11.2.1 > 0)) kr ?_ ?_)
      ·intro hc
       rw [if_pos hc] at hr
       refine W_skip ?_
       refine X_then ?_
       refine W_seq ?_
       refine W_block ?_
       refine W_region ?_
       refine WO_seg 2 [(83, .string s11.1), (84, .func (.func 146) #[] #[.pointer (some ⟨b1, 0, none⟩), .pointer (some ⟨b2, 0, none⟩), .pointer (some ⟨b3, 0, none⟩)])] kr kr ?_
       refine WO_one rfl (One_fn 85 146 #[.pointer (some ⟨b1, 0, none⟩), .pointer (some ⟨b2, 0, none⟩), .pointer (some ⟨b3, 0, none⟩)] kr rfl ?_)
       refine W_calls Tryz.func146 rfl Tryz.ntmps146 [(0, .pointer (some ⟨b1, 0, none⟩)), (1, .pointer (some ⟨b2, 0, none⟩)), (2, .pointer (some ⟨b3, 0, none⟩))] kr rfl ?_
       refine W_sr (WO_seg 1 [] kr kr ?_)
       refine WO_et rfl (W_sr ?_)
       refine WO_one rfl (One_load_own (d := 4) (t := 26) (x := (.tmp 0)) (.pointer (some ⟨bp0, 0, none⟩)) kr rfl (ev (.pointer (some ⟨b1, 0, none⟩))) st.tail.tail.tail.head kr ?_)
       refine WO_one rfl (One_load_own (d := 5) (t := 3) (x := (.tmp 1)) (.int .i64 p1) kr rfl (ev (.pointer (some ⟨b2, 0, none⟩))) st.tail.tail.head kr ?_)
       refine WO_seg 1 [(6, .int .i64 (IntKind.wrap .i64 (p1 - 1)))] kr kr ?_
       refine WO_one rfl (One_load_own (d := 7) (t := 33) (x := (.tmp 2)) (.slice a2 (List.length p2) c2) kr rfl (ev (.pointer (some ⟨b3, 0, none⟩))) st.tail.head kr ?_)
       replace ⟨y20, hx30, hr⟩ := bindS hr
       refine WO_one rfl (One_fn 8 117 #[.pointer (some ⟨bp0, 0, none⟩), .int .i64 (IntKind.wrap .i64 (p1 - 1)), .slice a2 (List.length p2) c2] kr rfl ?_)
       refine (ih_testgatemake_Expr st r26 r2 hx30).mono ?_
       clear st
       rintro _ w36 ⟨a24, c24, m32, rfl, hle26, st, r27⟩
       refine ⟨_, rfl, ?_⟩
       have hm := Mem.le_trans hm hle26
       have r2 := r2.mono hle26
       have r26 := r26.mono hle26
       refine WO_seg 1 [(3, .string y20.2)] kr kr ?_
       refine WO_et rfl (W_ret ?_)
       refine X_ret [.tmp 3] [.string y20.2] rfl (ResAll.cons (ResAt.tmp kr) ResAll.nil) ?_
       refine ⟨_, rfl, ?_⟩
       replace ⟨s12, hx31, hr⟩ := bindS hr
       refine WO_one rfl (One_cat (d := 86) (t := 9) (t2 := 9) (x := (.const (.string (⟨#[44, 32]⟩ : ByteArray)))) (y := (.tmp 85)) kr rfl (ev (.string (⟨#[44, 32]⟩ : ByteArray))) (ev (.string y20.2)) hx31 ?_)
       replace ⟨s13, hx32, hr⟩ := bindS hr
       refine WO_one rfl (One_cat (d := 87) (t := 9) (t2 := 9) (x := (.tmp 83)) (y := (.tmp 86)) kr rfl (ev (.string s11.1)) (ev (.string s12)) hx32 ?_)
       refine WO_seg 1 [(8, .string s13)] kr kr ?_
       refine WO_end rfl ?_
       refine X_block ?_
       refine X_then ?_
       refine W_region ?_
       refine WO_seg 3 [(9, .int .i64 (IntKind.wrap .i64 (s11.2.1 - 1)))] kr kr ?_
       refine WO_end rfl ?_
       obtain rfl := Option.some.inj hr
       have hL := hSu4 _ rfl
       have st := st.front3.front3.front3.front3
       exact X_env _ kr (X_round k1 (Nat.lt_succ_self _) ⟨(s13, IntKind.wrap .i64 (s11.2.1 - 1), y20.1.1, y20.1.2), a24, c24, m32, hL, rfl, hm, st, r27, r2⟩)
      ·intro hc
       rw [if_neg (not_true hc)] at hr
       refine W_exit ?_
       refine X_then_exit ?_
       obtain rfl := Option.some.inj hr
       have ho := hBu4 _ rfl
       have st := st.front3.front3.front3.front3
       refine X_then_exit ?_
       exact X_env _ kr (K2_u4 _ _ ⟨(s11.1, s11.2.2.1, s11.2.2.2), a23, c23, m31, ho, rfl, hm, st, r26, r2⟩)
    ·intro hc
     rw [if_neg (not_true hc)] at hr
     refine W_sr (WO_seg 2 [(90, .bool (y15.2 == 3))] kr kr ?_)
     refine WO_et rfl (W_cond (y15.2 == 3) kr ?_ ?_)
     ·intro hc
      rw [if_pos hc] at hr
      refine W_sr (WO_seg 1 [(92, .func (.func 146) #[] #[.pointer (some ⟨b1, 0, none⟩), .pointer (some ⟨b2, 0, none⟩), .pointer (some ⟨b3, 0, none⟩)])] kr kr ?_)
      refine WO_one rfl (One_fn 93 146 #[.pointer (some ⟨b1, 0, none⟩), .pointer (some ⟨b2, 0, none⟩), .pointer (some ⟨b3, 0, none⟩)] kr rfl ?_)
      refine W_calls Tryz.func146 rfl Tryz.ntmps146 [(0, .pointer (some ⟨b1, 0, none⟩)), (1, .pointer (some ⟨b2, 0, none⟩)), (2, .pointer (some ⟨b3, 0, none⟩))] kr rfl ?_
      refine W_sr (WO_seg 1 [] kr kr ?_)
      refine WO_et rfl (W_sr ?_)
      refine WO_one rfl (One_load_own (d := 4) (t := 26) (x := (.tmp 0)) (.pointer (some ⟨bp0, 0, none⟩)) kr rfl (ev (.pointer (some ⟨b1, 0, none⟩))) st.tail.tail.tail.head kr ?_)
      refine WO_one rfl (One_load_own (d := 5) (t := 3) (x := (.tmp 1)) (.int .i64 p1) kr rfl (ev (.pointer (some ⟨b2, 0, none⟩))) st.tail.tail.head kr ?_)
      refine WO_seg 1 [(6, .int .i64 (IntKind.wrap .i64 (p1 - 1)))] kr kr ?_
      refine WO_one rfl (One_load_own (d := 7) (t := 33) (x := (.tmp 2)) (.slice a2 (List.length p2) c2) kr rfl (ev (.pointer (some ⟨b3, 0, none⟩))) st.tail.head kr ?_)
      replace ⟨y21, hx34, hr⟩ := bindS hr
      refine WO_one rfl (One_fn 8 117 #[.pointer (some ⟨bp0, 0, none⟩), .int .i64 (IntKind.wrap .i64 (p1 - 1)), .slice a2 (List.length p2) c2] kr rfl ?_)
      refine (ih_testgatemake_Expr st r19 r2 hx34).mono ?_
      clear st
      rintro _ w37 ⟨a25, c25, m33, rfl, hle27, st, r28⟩
      refine ⟨_, rfl, ?_⟩
      have hm := Mem.le_trans hm hle27
      have r2 := r2.mono hle27
      have r19 := r19.mono hle27
      refine WO_seg 1 [(3, .string y21.2)] kr kr ?_
      refine WO_et rfl (W_ret ?_)
      refine X_ret [.tmp 3] [.string y21.2] rfl (ResAll.cons (ResAt.tmp kr) ResAll.nil) ?_
      refine ⟨_, rfl, ?_⟩
      replace ⟨s15, hx35, hr⟩ := bindS hr
      refine WO_one rfl (One_cat (d := 94) (t := 9) (t2 := 9) (x := (.const (.string (⟨#[105, 102, 32]⟩ : ByteArray)))) (y := (.tmp 93)) kr rfl (ev (.string (⟨#[105, 102, 32]⟩ : ByteArray))) (ev (.string y21.2)) hx35 ?_)
      replace ⟨s16, hx36, hr⟩ := bindS hr
      refine WO_one rfl (One_cat (d := 95) (t := 9) (t2 := 9) (x := (.tmp 94)) (y := (.const (.string (⟨#[32, 116, 104, 101, 110, 32]⟩ : ByteArray)))) kr rfl (ev (.string s15)) (ev (.string (⟨#[32, 116, 104, 101, 110, 32]⟩ : ByteArray))) hx36 ?_)
      refine WO_seg 1 [(96, .func (.func 146) #[] #[.pointer (some ⟨b1, 0, none⟩), .pointer (some ⟨b2, 0, none⟩), .pointer (some ⟨b3, 0, none⟩)])] kr kr ?_
      refine WO_one rfl (One_fn 97 146 #[.pointer (some ⟨b1, 0, none⟩), .pointer (some ⟨b2, 0, none⟩), .pointer (some ⟨b3, 0, none⟩)] kr rfl ?_)
      refine W_calls Tryz.func146 rfl Tryz.ntmps146 [(0, .pointer (some ⟨b1, 0, none⟩)), (1, .pointer (some ⟨b2, 0, none⟩)), (2, .pointer (some ⟨b3, 0, none⟩))] kr rfl ?_
      refine W_sr (WO_seg 1 [] kr kr ?_)
      refine WO_et rfl (W_sr ?_)
      refine WO_one rfl (One_load_own (d := 4) (t := 26) (x := (.tmp 0)) (.pointer (some ⟨bp0, 0, none⟩)) kr rfl (ev (.pointer (some ⟨b1, 0, none⟩))) st.tail.tail.tail.head kr ?_)
      refine WO_one rfl (One_load_own (d := 5) (t := 3) (x := (.tmp 1)) (.int .i64 p1) kr rfl (ev (.pointer (some ⟨b2, 0, none⟩))) st.tail.tail.head kr ?_)
      refine WO_seg 1 [(6, .int .i64 (IntKind.wrap .i64 (p1 - 1)))] kr kr ?_
      refine WO_one rfl (One_load_own (d := 7) (t := 33) (x := (.tmp 2)) (.slice a2 (List.length p2) c2) kr rfl (ev (.pointer (some ⟨b3, 0, none⟩))) st.tail.head kr ?_)
      replace ⟨y22, hx37, hr⟩ := bindS hr
      refine WO_one rfl (One_fn 8 117 #[.pointer (some ⟨bp0, 0, none⟩), .int .i64 (IntKind.wrap .i64 (p1 - 1)), .slice a2 (List.length p2) c2] kr rfl ?_)
      refine (ih_testgatemake_Expr st r28 r2 hx37).mono ?_
      clear st
      rintro _ w38 ⟨a26, c26, m34, rfl, hle28, st, r29⟩
      refine ⟨_, rfl, ?_⟩
      have hm := Mem.le_trans hm hle28
      have r2 := r2.mono hle28
      have r28 := r28.mono hle28
      refine WO_seg 1 [(3, .string y22.2)] kr kr ?_
      refine WO_et rfl (W_ret ?_)
      refine X_ret [.tmp 3] [.string y22.2] rfl (ResAll.cons (ResAt.tmp kr) ResAll.nil) ?_
      refine ⟨_, rfl, ?_⟩
      replace ⟨s17, hx38, hr⟩ := bindS hr
      refine WO_one rfl (One_cat (d := 98) (t := 9) (t2 := 9) (x := (.tmp 95)) (y := (.tmp 97)) kr rfl (ev (.string s16)) (ev (.string y22.2)) hx38 ?_)
      replace ⟨s18, hx39, hr⟩ := bindS hr
      refine WO_one rfl (One_cat (d := 99) (t := 9) (t2 := 9) (x := (.tmp 98)) (y := (.const (.string (⟨#[32, 101, 108, 115, 101, 32, 40]⟩ : ByteArray)))) kr rfl (ev (.string s17)) (ev (.string (⟨#[32, 101, 108, 115, 101, 32, 40]⟩ : ByteArray))) hx39 ?_)
      refine WO_seg 1 [(100, .func (.func 146) #[] #[.pointer (some ⟨b1, 0, none⟩), .pointer (some ⟨b2, 0, none⟩), .pointer (some ⟨b3, 0, none⟩)])] kr kr ?_
      refine WO_one rfl (One_fn 101 146 #[.pointer (some ⟨b1, 0, none⟩), .pointer (some ⟨b2, 0, none⟩), .pointer (some ⟨b3, 0, none⟩)] kr rfl ?_)
      refine W_calls Tryz.func146 rfl Tryz.ntmps146 [(0, .pointer (some ⟨b1, 0, none⟩)), (1, .pointer (some ⟨b2, 0, none⟩)), (2, .pointer (some ⟨b3, 0, none⟩))] kr rfl ?_
      refine W_sr (WO_seg 1 [] kr kr ?_)
      refine WO_et rfl (W_sr ?_)
      refine WO_one rfl (One_load_own (d := 4) (t := 26) (x := (.tmp 0)) (.pointer (some ⟨bp0, 0, none⟩)) kr rfl (ev (.pointer (some ⟨b1, 0, none⟩))) st.tail.tail.tail.head kr ?_)
      refine WO_one rfl (One_load_own (d := 5) (t := 3) (x := (.tmp 1)) (.int .i64 p1) kr rfl (ev (.pointer (some ⟨b2, 0, none⟩))) st.tail.tail.head kr ?_)
      refine WO_seg 1 [(6, .int .i64 (IntKind.wrap .i64 (p1 - 1)))] kr kr ?_
      refine WO_one rfl (One_load_own (d := 7) (t := 33) (x := (.tmp 2)) (.slice a2 (List.length p2) c2) kr rfl (ev (.pointer (some ⟨b3, 0, none⟩))) st.tail.head kr ?_)
      replace ⟨y23, hx40, hr⟩ := bindS hr
      refine WO_one rfl (One_fn 8 117 #[.pointer (some ⟨bp0, 0, none⟩), .int .i64 (IntKind.wrap .i64 (p1 - 1)), .slice a2 (List.length p2) c2] kr rfl ?_)
      refine (ih_testgatemake_Expr st r29 r2 hx40).mono ?_
      clear st
      rintro _ w39 ⟨a27, c27, m35, rfl, hle29, st, r30⟩
      refine ⟨_, rfl, ?_⟩
      have hm := Mem.le_trans hm hle29
      have r2 := r2.mono hle29
      have r29 := r29.mono hle29
      refine WO_seg 1 [(3, .string y23.2)] kr kr ?_
      refine WO_et rfl (W_ret ?_)
      refine X_ret [.tmp 3] [.string y23.2] rfl (ResAll.cons (ResAt.tmp kr) ResAll.nil) ?_
      refine ⟨_, rfl, ?_⟩
      replace ⟨s19, hx41, hr⟩ := bindS hr
      refine WO_one rfl (One_cat (d := 102) (t := 9) (t2 := 9) (x := (.tmp 99)) (y := (.tmp 101)) kr rfl (ev (.string s18)) (ev (.string y23.2)) hx41 ?_)
      replace ⟨s20, hx42, hr⟩ := bindS hr
      refine WO_one rfl (One_cat (d := 103) (t := 9) (t2 := 9) (x := (.tmp 102)) (y := (.const (.string (⟨#[41]⟩ : ByteArray)))) kr rfl (ev (.string s19)) (ev (.string (⟨#[41]⟩ : ByteArray))) hx42 ?_)
      refine WO_seg 1 [(6, .string s20)] kr kr ?_
      refine WO_et rfl (W_ret ?_)
      refine X_block_ret ?_
      refine X_then_ret ?_
      obtain rfl := Option.some.inj hr
      refine X_ret [.tmp 6] [.string s20] rfl (ResAll.cons (ResAt.tmp kr) ResAll.nil) ?_
      have st := st.front1
      have st := st.tail
      have st := st.front1
      have st := st.tail
      have st := st.front1
      have st := st.tail
      exact ⟨a27, c27, m35, rfl, hm, st, r30⟩
     ·intro hc
      rw [if_neg (not_true hc)] at hr
      refine W_sr (WO_seg 2 [(104, .bool (y15.2 == 4))] kr kr ?_)
      refine WO_et rfl (W_cond (y15.2 == 4) kr ?_ ?_)
      ·intro hc
       rw [if_pos hc] at hr
       refine W_seq ?_
       refine W_draw [(10, fun w' => Inv m24 w' ∧ Piece.holds m24 w' (.blk b1 (.cells #[.pointer (some ⟨bp0, 0, none⟩)] 26 (0, 0))) ∧ True)] kr st ?_
       clear st
       intro w40 _ st
       have hmS5 := m24.le_refl
       refine ⟨⟨.inr ⟨Inv.anti st.inv hmS5, Piece.holds_anti st.tail.tail.tail.head hmS5, trivial⟩, trivial⟩, ?_⟩
       refine WA_load_own (t := 26) (x := (.tmp 3)) 0 106 (.pointer (some ⟨bp0, 0, none⟩)) kr rfl kr (.head _) (QP_then (QP_block (QP_then QP_body))) (fun _ h => h.2.1) (ev (.pointer (some ⟨b1, 0, none⟩))) kr ?_
       refine WA_pure 5 111 (.func (.func 146) #[] #[.pointer (some ⟨b1, 0, none⟩), .pointer (some ⟨b2, 0, none⟩), .pointer (some ⟨b3, 0, none⟩)]) kr rfl kr (.head _) (QP_then (QP_block (QP_then QP_body))) ?_
       replace ⟨y24, hx43, hr⟩ := bindS hr
       refine WA_one 1 kr  (One_fn 107 105 #[] kr rfl ?_)
       refine (testgatemake_Paths_ok st hx43).mono ?_
       clear st
       rintro _ w41 ⟨a28, c28, m36, rfl, hle30, st, r31⟩
       refine ⟨_, rfl, ?_⟩
       have hm := Mem.le_trans hm hle30
       have r19 := r19.mono hle30
       have r2 := r2.mono hle30
       have hmS5 := Mem.le_trans hmS5 hle30
       refine ⟨⟨.inr ⟨Inv.anti st.inv hmS5, Piece.holds_anti st.tail.tail.tail.tail.head hmS5, trivial⟩, trivial⟩, ?_⟩
       have st := st.front1
       replace ⟨y25, hx44, hr⟩ := bindS hr
       refine WA_one 2 kr  (One_fn 108 13 #[.pointer (some ⟨bp0, 0, none⟩), .slice a28 (List.length y24) c28] kr rfl ?_)
       refine (testgatemake_Tape_One_ok st r19 r31 hx44).mono ?_
       clear st
       rintro _ w42 ⟨a29, c29, m37, rfl, hle31, st, r32⟩
       refine ⟨_, rfl, ?_⟩
       have hm := Mem.le_trans hm hle31
       have r31 := r31.mono hle31
       have r19 := r19.mono hle31
       have r2 := r2.mono hle31
       have hmS5 := Mem.le_trans hmS5 hle31
       refine ⟨⟨.inr ⟨Inv.anti st.inv hmS5, Piece.holds_anti st.tail.tail.tail.tail.head hmS5, trivial⟩, trivial⟩, ?_⟩
       replace ⟨s21, hx45, hr⟩ := bindS hr
       refine WA_cat (t := 9) (t2 := 9) (x := (.const (.string (⟨#[114, 101, 97, 100, 40, 34]⟩ : ByteArray)))) (y := (.tmp 108)) 3 109 kr rfl kr (.head _) (QP_then (QP_block (QP_then QP_body))) (ev (.string (⟨#[114, 101, 97, 100, 40, 34]⟩ : ByteArray))) (ev (.string y25.2)) hx45 ?_
       replace ⟨s22, hx46, hr⟩ := bindS hr
       refine WA_cat (t := 9) (t2 := 9) (x := (.tmp 109)) (y := (.const (.string (⟨#[34, 44, 32]⟩ : ByteArray)))) 4 110 kr rfl kr (.head _) (QP_then (QP_block (QP_then QP_body))) (ev (.string s21)) (ev (.string (⟨#[34, 44, 32]⟩ : ByteArray))) hx46 ?_
       refine WA_one 6 kr  (One_fn 112 146 #[.pointer (some ⟨b1, 0, none⟩), .pointer (some ⟨b2, 0, none⟩), .pointer (some ⟨b3, 0, none⟩)] kr rfl ?_)
       refine W_calls Tryz.func146 rfl Tryz.ntmps146 [(0, .pointer (some ⟨b1, 0, none⟩)), (1, .pointer (some ⟨b2, 0, none⟩)), (2, .pointer (some ⟨b3, 0, none⟩))] kr rfl ?_
       refine W_sr (WO_seg 1 [] kr kr ?_)
       refine WO_et rfl (W_sr ?_)
       refine WO_one rfl (One_load_own (d := 4) (t := 26) (x := (.tmp 0)) (.pointer (some ⟨bp0, 0, none⟩)) kr rfl (ev (.pointer (some ⟨b1, 0, none⟩))) st.tail.tail.tail.tail.head kr ?_)
       refine WO_one rfl (One_load_own (d := 5) (t := 3) (x := (.tmp 1)) (.int .i64 p1) kr rfl (ev (.pointer (some ⟨b2, 0, none⟩))) st.tail.tail.tail.head kr ?_)
       refine WO_seg 1 [(6, .int .i64 (IntKind.wrap .i64 (p1 - 1)))] kr kr ?_
       refine WO_one rfl (One_load_own (d := 7) (t := 33) (x := (.tmp 2)) (.slice a2 (List.length p2) c2) kr rfl (ev (.pointer (some ⟨b3, 0, none⟩))) st.tail.tail.head kr ?_)
       replace ⟨y26, hx47, hr⟩ := bindS hr
       refine WO_one rfl (One_fn 8 117 #[.pointer (some ⟨bp0, 0, none⟩), .int .i64 (IntKind.wrap .i64 (p1 - 1)), .slice a2 (List.length p2) c2] kr rfl ?_)
       refine (ih_testgatemake_Expr st r32 r2 hx47).mono ?_
       clear st
       rintro _ w43 ⟨a30, c30, m38, rfl, hle32, st, r33⟩
       refine ⟨_, rfl, ?_⟩
       have hm := Mem.le_trans hm hle32
       have r2 := r2.mono hle32
       have r31 := r31.mono hle32
       have r32 := r32.mono hle32
       have hmS5 := Mem.le_trans hmS5 hle32
       refine WO_seg 1 [(3, .string y26.2)] kr kr ?_
       refine WO_et rfl (W_ret ?_)
       refine X_ret [.tmp 3] [.string y26.2] rfl (ResAll.cons (ResAt.tmp kr) ResAll.nil) ?_
       refine ⟨_, rfl, ?_⟩
       refine ⟨⟨.inr ⟨Inv.anti st.inv hmS5, Piece.holds_anti st.tail.tail.tail.tail.head hmS5, trivial⟩, trivial⟩, ?_⟩
       replace ⟨s23, hx48, hr⟩ := bindS hr
       refine WA_cat (t := 9) (t2 := 9) (x := (.tmp 110)) (y := (.tmp 112)) 7 113 kr rfl kr (.head _) (QP_then (QP_block (QP_then QP_body))) (ev (.string s22)) (ev (.string y26.2)) hx48 ?_
       replace ⟨s24, hx49, hr⟩ := bindS hr
       refine WA_cat (t := 9) (t2 := 9) (x := (.tmp 113)) (y := (.const (.string (⟨#[41]⟩ : ByteArray)))) 8 114 kr rfl kr (.head _) (QP_then (QP_block (QP_then QP_body))) (ev (.string s23)) (ev (.string (⟨#[41]⟩ : ByteArray))) hx49 ?_
       refine WA_pure 9 6 (.string s24) kr rfl kr (.head _) (QP_then (QP_block (QP_then QP_body))) ?_
       refine WA_done kr ?_
       have st := st.front1
       have st := st.tail
       refine X_then ?_
       refine W_ret ?_
       refine X_block_ret ?_
       refine X_then_ret ?_
       obtain rfl := Option.some.inj hr
       refine X_ret [.tmp 6] [.string s24] rfl (ResAll.cons (ResAt.tmp kr) ResAll.nil) ?_
       have st := st.front1
       have st := st.tail
       have st := st.front1
       have st := st.tail
       have st := st.front1
       have st := st.tail
       exact ⟨a30, c30, m38, rfl, hm, st, r33⟩
      ·intro hc
       rw [if_neg (not_true hc)] at hr
       refine W_sr (WO_seg 2 [(115, .bool (y15.2 == 5))] kr kr ?_)
       refine WO_et rfl (W_cond (y15.2 == 5) kr ?_ ?_)
       ·intro hc
        rw [if_pos hc] at hr
        refine W_sr (WO_seg 1 [(117, .func (.func 146) #[] #[.pointer (some ⟨b1, 0, none⟩), .pointer (some ⟨b2, 0, none⟩), .pointer (some ⟨b3, 0, none⟩)])] kr kr ?_)
        refine WO_one rfl (One_fn 118 146 #[.pointer (some ⟨b1, 0, none⟩), .pointer (some ⟨b2, 0, none⟩), .pointer (some ⟨b3, 0, none⟩)] kr rfl ?_)
        refine W_calls Tryz.func146 rfl Tryz.ntmps146 [(0, .pointer (some ⟨b1, 0, none⟩)), (1, .pointer (some ⟨b2, 0, none⟩)), (2, .pointer (some ⟨b3, 0, none⟩))] kr rfl ?_
        refine W_sr (WO_seg 1 [] kr kr ?_)
        refine WO_et rfl (W_sr ?_)
        refine WO_one rfl (One_load_own (d := 4) (t := 26) (x := (.tmp 0)) (.pointer (some ⟨bp0, 0, none⟩)) kr rfl (ev (.pointer (some ⟨b1, 0, none⟩))) st.tail.tail.tail.head kr ?_)
        refine WO_one rfl (One_load_own (d := 5) (t := 3) (x := (.tmp 1)) (.int .i64 p1) kr rfl (ev (.pointer (some ⟨b2, 0, none⟩))) st.tail.tail.head kr ?_)
        refine WO_seg 1 [(6, .int .i64 (IntKind.wrap .i64 (p1 - 1)))] kr kr ?_
        refine WO_one rfl (One_load_own (d := 7) (t := 33) (x := (.tmp 2)) (.slice a2 (List.length p2) c2) kr rfl (ev (.pointer (some ⟨b3, 0, none⟩))) st.tail.head kr ?_)
        replace ⟨y27, hx50, hr⟩ := bindS hr
        refine WO_one rfl (One_fn 8 117 #[.pointer (some ⟨bp0, 0, none⟩), .int .i64 (IntKind.wrap .i64 (p1 - 1)), .slice a2 (List.length p2) c2] kr rfl ?_)
        refine (ih_testgatemake_Expr st r19 r2 hx50).mono ?_
        clear st
        rintro _ w44 ⟨a31, c31, m39, rfl, hle33, st, r34⟩
        refine ⟨_, rfl, ?_⟩
        have hm := Mem.le_trans hm hle33
        have r2 := r2.mono hle33
        have r19 := r19.mono hle33
        refine WO_seg 1 [(3, .string y27.2)] kr kr ?_
        refine WO_et rfl (W_ret ?_)
        refine X_ret [.tmp 3] [.string y27.2] rfl (ResAll.cons (ResAt.tmp kr) ResAll.nil) ?_
        refine ⟨_, rfl, ?_⟩
        replace ⟨s25, hx51, hr⟩ := bindS hr
        refine WO_one rfl (One_cat (d := 119) (t := 9) (t2 := 9) (x := (.const (.string (⟨#[40]⟩ : ByteArray)))) (y := (.tmp 118)) kr rfl (ev (.string (⟨#[40]⟩ : ByteArray))) (ev (.string y27.2)) hx51 ?_)
        replace ⟨s26, hx52, hr⟩ := bindS hr
        refine WO_one rfl (One_cat (d := 120) (t := 9) (t2 := 9) (x := (.tmp 119)) (y := (.const (.string (⟨#[41]⟩ : ByteArray)))) kr rfl (ev (.string s25)) (ev (.string (⟨#[41]⟩ : ByteArray))) hx52 ?_)
        refine WO_seg 1 [(6, .string s26)] kr kr ?_
        refine WO_et rfl (W_ret ?_)
        refine X_block_ret ?_
        refine X_then_ret ?_
        obtain rfl := Option.some.inj hr
        refine X_ret [.tmp 6] [.string s26] rfl (ResAll.cons (ResAt.tmp kr) ResAll.nil) ?_
        have st := st.front1
        have st := st.tail
        have st := st.front1
        have st := st.tail
        have st := st.front1
        have st := st.tail
        exact ⟨a31, c31, m39, rfl, hm, st, r34⟩
       ·intro hc
        rw [if_neg (not_true hc)] at hr
        refine W_skip ?_
        refine X_block ?_
        refine X_then ?_
        refine W_seq ?_
        refine W_draw [(14, fun w' => Inv m24 w' ∧ Piece.holds m24 w' (.blk b1 (.cells #[.pointer (some ⟨bp0, 0, none⟩)] 26 (0, 0))) ∧ True)] kr st ?_
        clear st
        intro w45 _ st
        have hmS6 := m24.le_refl
        refine ⟨⟨.inr ⟨Inv.anti st.inv hmS6, Piece.holds_anti st.tail.tail.tail.head hmS6, trivial⟩, trivial⟩, ?_⟩
        refine WA_pure 0 121 (.func (.func 146) #[] #[.pointer (some ⟨b1, 0, none⟩), .pointer (some ⟨b2, 0, none⟩), .pointer (some ⟨b3, 0, none⟩)]) kr rfl kr (.head _) (QP_then QP_body) ?_
        refine WA_load_own (t := 26) (x := (.tmp 3)) 4 125 (.pointer (some ⟨bp0, 0, none⟩)) kr rfl kr (.head _) (QP_then QP_body) (fun _ h => h.2.1) (ev (.pointer (some ⟨b1, 0, none⟩))) kr ?_
        refine WA_pure 9 130 (.func (.func 146) #[] #[.pointer (some ⟨b1, 0, none⟩), .pointer (some ⟨b2, 0, none⟩), .pointer (some ⟨b3, 0, none⟩)]) kr rfl kr (.head _) (QP_then QP_body) ?_
        refine WA_many [1, 5] kr (by simp) (all_two ?_ ?_)
        ·refine One_fn 122 146 #[.pointer (some ⟨b1, 0, none⟩), .pointer (some ⟨b2, 0, none⟩), .pointer (some ⟨b3, 0, none⟩)] kr rfl ?_
         refine W_calls Tryz.func146 rfl Tryz.ntmps146 [(0, .pointer (some ⟨b1, 0, none⟩)), (1, .pointer (some ⟨b2, 0, none⟩)), (2, .pointer (some ⟨b3, 0, none⟩))] kr rfl ?_
         refine W_sr (WO_seg 1 [] kr kr ?_)
         refine WO_et rfl (W_sr ?_)
         refine WO_one rfl (One_load_own (d := 4) (t := 26) (x := (.tmp 0)) (.pointer (some ⟨bp0, 0, none⟩)) kr rfl (ev (.pointer (some ⟨b1, 0, none⟩))) st.tail.tail.tail.head kr ?_)
         refine WO_one rfl (One_load_own (d := 5) (t := 3) (x := (.tmp 1)) (.int .i64 p1) kr rfl (ev (.pointer (some ⟨b2, 0, none⟩))) st.tail.tail.head kr ?_)
         refine WO_seg 1 [(6, .int .i64 (IntKind.wrap .i64 (p1 - 1)))] kr kr ?_
         refine WO_one rfl (One_load_own (d := 7) (t := 33) (x := (.tmp 2)) (.slice a2 (List.length p2) c2) kr rfl (ev (.pointer (some ⟨b3, 0, none⟩))) st.tail.head kr ?_)
         replace ⟨y28, hx53, hr⟩ := bindS hr
         refine WO_one rfl (One_fn 8 117 #[.pointer (some ⟨bp0, 0, none⟩), .int .i64 (IntKind.wrap .i64 (p1 - 1)), .slice a2 (List.length p2) c2] kr rfl ?_)
         refine (ih_testgatemake_Expr st r19 r2 hx53).mono ?_
         clear st
         rintro _ w46 ⟨a32, c32, m40, rfl, hle34, st, r35⟩
         refine ⟨_, rfl, ?_⟩
         have hm := Mem.le_trans hm hle34
         have r2 := r2.mono hle34
         have r19 := r19.mono hle34
         have hmS6 := Mem.le_trans hmS6 hle34
         refine WO_seg 1 [(3, .string y28.2)] kr kr ?_
         refine WO_et rfl (W_ret ?_)
         refine X_ret [.tmp 3] [.string y28.2] rfl (ResAll.cons (ResAt.tmp kr) ResAll.nil) ?_
         refine ⟨_, rfl, ?_⟩
         refine ⟨⟨.inr ⟨Inv.anti st.inv hmS6, Piece.holds_anti st.tail.tail.tail.head hmS6, trivial⟩, trivial⟩, ?_⟩
         replace ⟨s27, hx54, hr⟩ := bindS hr
         refine WA_cat (t := 9) (t2 := 9) (x := (.const (.string (⟨#[40]⟩ : ByteArray)))) (y := (.tmp 122)) 2 123 kr rfl kr (.head _) (QP_then QP_body) (ev (.string (⟨#[40]⟩ : ByteArray))) (ev (.string y28.2)) hx54 ?_
         replace ⟨s28, hx55, hr⟩ := bindS hr
         refine WA_cat (t := 9) (t2 := 9) (x := (.tmp 123)) (y := (.const (.string (⟨#[41, 32]⟩ : ByteArray)))) 3 124 kr rfl kr (.head _) (QP_then QP_body) (ev (.string s27)) (ev (.string (⟨#[41, 32]⟩ : ByteArray))) hx55 ?_
         refine WA_one 5 kr  (One_buildSlice (d := 126) (t := 33) (e := 9) (len := 7) (parts := #[(0, (.const (.string (⟨#[43]⟩ : ByteArray)))), (1, (.const (.string (⟨#[45]⟩ : ByteArray)))), (2, (.const (.string (⟨#[42]⟩ : ByteArray)))), (3, (.const (.string (⟨#[47]⟩ : ByteArray)))), (4, (.const (.string (⟨#[37]⟩ : ByteArray)))), (5, (.const (.string (⟨#[60]⟩ : ByteArray)))), (6, (.const (.string (⟨#[61, 61]⟩ : ByteArray))))]) cStr (xs := [(⟨#[43]⟩ : ByteArray), (⟨#[45]⟩ : ByteArray), (⟨#[42]⟩ : ByteArray), (⟨#[47]⟩ : ByteArray), (⟨#[37]⟩ : ByteArray), (⟨#[60]⟩ : ByteArray), (⟨#[61, 61]⟩ : ByteArray)]) [.string (⟨#[43]⟩ : ByteArray), .string (⟨#[45]⟩ : ByteArray), .string (⟨#[42]⟩ : ByteArray), .string (⟨#[47]⟩ : ByteArray), .string (⟨#[37]⟩ : ByteArray), .string (⟨#[60]⟩ : ByteArray), .string (⟨#[61, 61]⟩ : ByteArray)] kr rfl (fun _ => buildCells_run kr _) rfl rfl st ⟨[.string (⟨#[43]⟩ : ByteArray)], _, rfl, rfl, ⟨[.string (⟨#[45]⟩ : ByteArray)], _, rfl, rfl, ⟨[.string (⟨#[42]⟩ : ByteArray)], _, rfl, rfl, ⟨[.string (⟨#[47]⟩ : ByteArray)], _, rfl, rfl, ⟨[.string (⟨#[37]⟩ : ByteArray)], _, rfl, rfl, ⟨[.string (⟨#[60]⟩ : ByteArray)], _, rfl, rfl, ⟨[.string (⟨#[61, 61]⟩ : ByteArray)], _, rfl, rfl, rfl⟩⟩⟩⟩⟩⟩⟩ ?_)
         clear st
         intro b7 m41 w47 hle35 st r36
         have hm := Mem.le_trans hm hle35
         have r35 := r35.mono hle35
         have r2 := r2.mono hle35
         have hmS6 := Mem.le_trans hmS6 hle35
         refine ⟨⟨.inr ⟨Inv.anti st.inv hmS6, Piece.holds_anti st.tail.tail.tail.tail.head hmS6, trivial⟩, trivial⟩, ?_⟩
         have st := st.front1
         replace ⟨y29, hx56, hr⟩ := bindS hr
         refine WA_one 6 kr  (One_fn 127 13 #[.pointer (some ⟨bp0, 0, none⟩), .slice (some ⟨b7, 0, none⟩) (List.length ([(⟨#[43]⟩ : ByteArray), (⟨#[45]⟩ : ByteArray), (⟨#[42]⟩ : ByteArray), (⟨#[47]⟩ : ByteArray), (⟨#[37]⟩ : ByteArray), (⟨#[60]⟩ : ByteArray), (⟨#[61, 61]⟩ : ByteArray)])) 7] kr rfl ?_)
         refine (testgatemake_Tape_One_ok st r35 r36 hx56).mono ?_
         clear st
         rintro _ w48 ⟨a33, c33, m42, rfl, hle36, st, r37⟩
         refine ⟨_, rfl, ?_⟩
         have hm := Mem.le_trans hm hle36
         have r36 := r36.mono hle36
         have r35 := r35.mono hle36
         have r2 := r2.mono hle36
         have hmS6 := Mem.le_trans hmS6 hle36
         refine ⟨⟨.inr ⟨Inv.anti st.inv hmS6, Piece.holds_anti st.tail.tail.tail.tail.head hmS6, trivial⟩, trivial⟩, ?_⟩
         replace ⟨s29, hx57, hr⟩ := bindS hr
         refine WA_cat (t := 9) (t2 := 9) (x := (.tmp 124)) (y := (.tmp 127)) 7 128 kr rfl kr (.head _) (QP_then QP_body) (ev (.string s28)) (ev (.string y29.2)) hx57 ?_
         replace ⟨s30, hx58, hr⟩ := bindS hr
         refine WA_cat (t := 9) (t2 := 9) (x := (.tmp 128)) (y := (.const (.string (⟨#[32, 40]⟩ : ByteArray)))) 8 129 kr rfl kr (.head _) (QP_then QP_body) (ev (.string s29)) (ev (.string (⟨#[32, 40]⟩ : ByteArray))) hx58 ?_
         refine WA_one 10 kr  (One_fn 131 146 #[.pointer (some ⟨b1, 0, none⟩), .pointer (some ⟨b2, 0, none⟩), .pointer (some ⟨b3, 0, none⟩)] kr rfl ?_)
         refine W_calls Tryz.func146 rfl Tryz.ntmps146 [(0, .pointer (some ⟨b1, 0, none⟩)), (1, .pointer (some ⟨b2, 0, none⟩)), (2, .pointer (some ⟨b3, 0, none⟩))] kr rfl ?_
         refine W_sr (WO_seg 1 [] kr kr ?_)
         refine WO_et rfl (W_sr ?_)
         refine WO_one rfl (One_load_own (d := 4) (t := 26) (x := (.tmp 0)) (.pointer (some ⟨bp0, 0, none⟩)) kr rfl (ev (.pointer (some ⟨b1, 0, none⟩))) st.tail.tail.tail.tail.head kr ?_)
         refine WO_one rfl (One_load_own (d := 5) (t := 3) (x := (.tmp 1)) (.int .i64 p1) kr rfl (ev (.pointer (some ⟨b2, 0, none⟩))) st.tail.tail.tail.head kr ?_)
         refine WO_seg 1 [(6, .int .i64 (IntKind.wrap .i64 (p1 - 1)))] kr kr ?_
         refine WO_one rfl (One_load_own (d := 7) (t := 33) (x := (.tmp 2)) (.slice a2 (List.length p2) c2) kr rfl (ev (.pointer (some ⟨b3, 0, none⟩))) st.tail.tail.head kr ?_)
         replace ⟨y30, hx59, hr⟩ := bindS hr
         refine WO_one rfl (One_fn 8 117 #[.pointer (some ⟨bp0, 0, none⟩), .int .i64 (IntKind.wrap .i64 (p1 - 1)), .slice a2 (List.length p2) c2] kr rfl ?_)
         refine (ih_testgatemake_Expr st r37 r2 hx59).mono ?_
         clear st
         rintro _ w49 ⟨a34, c34, m43, rfl, hle37, st, r38⟩
         refine ⟨_, rfl, ?_⟩
         have hm := Mem.le_trans hm hle37
         have r2 := r2.mono hle37
         have r36 := r36.mono hle37
         have r37 := r37.mono hle37
         have hmS6 := Mem.le_trans hmS6 hle37
         refine WO_seg 1 [(3, .string y30.2)] kr kr ?_
         refine WO_et rfl (W_ret ?_)
         refine X_ret [.tmp 3] [.string y30.2] rfl (ResAll.cons (ResAt.tmp kr) ResAll.nil) ?_
         refine ⟨_, rfl, ?_⟩
         refine ⟨⟨.inr ⟨Inv.anti st.inv hmS6, Piece.holds_anti st.tail.tail.tail.tail.head hmS6, trivial⟩, trivial⟩, ?_⟩
         replace ⟨s31, hx60, hr⟩ := bindS hr
         refine WA_cat (t := 9) (t2 := 9) (x := (.tmp 129)) (y := (.tmp 131)) 11 132 kr rfl kr (.head _) (QP_then QP_body) (ev (.string s30)) (ev (.string y30.2)) hx60 ?_
         replace ⟨s32, hx61, hr⟩ := bindS hr
         refine WA_cat (t := 9) (t2 := 9) (x := (.tmp 132)) (y := (.const (.string (⟨#[41]⟩ : ByteArray)))) 12 133 kr rfl kr (.head _) (QP_then QP_body) (ev (.string s31)) (ev (.string (⟨#[41]⟩ : ByteArray))) hx61 ?_
         refine WA_pure 13 6 (.string s32) kr rfl kr (.head _) (QP_then QP_body) ?_
         refine WA_done kr ?_
         have st := st.front1
         have st := st.tail
         refine X_then ?_
         refine W_ret ?_
         obtain rfl := Option.some.inj hr
         refine X_ret [.tmp 6] [.string s32] rfl (ResAll.cons (ResAt.tmp kr) ResAll.nil) ?_
         have st := st.front1
         have st := st.tail
         have st := st.front1
         have st := st.tail
         have st := st.front1
         have st := st.tail
         exact ⟨a34, c34, m43, rfl, hm, st, r38⟩
        ·refine One_buildSlice (d := 126) (t := 33) (e := 9) (len := 7) (parts := #[(0, (.const (.string (⟨#[43]⟩ : ByteArray)))), (1, (.const (.string (⟨#[45]⟩ : ByteArray)))), (2, (.const (.string (⟨#[42]⟩ : ByteArray)))), (3, (.const (.string (⟨#[47]⟩ : ByteArray)))), (4, (.const (.string (⟨#[37]⟩ : ByteArray)))), (5, (.const (.string (⟨#[60]⟩ : ByteArray)))), (6, (.const (.string (⟨#[61, 61]⟩ : ByteArray))))]) cStr (xs := [(⟨#[43]⟩ : ByteArray), (⟨#[45]⟩ : ByteArray), (⟨#[42]⟩ : ByteArray), (⟨#[47]⟩ : ByteArray), (⟨#[37]⟩ : ByteArray), (⟨#[60]⟩ : ByteArray), (⟨#[61, 61]⟩ : ByteArray)]) [.string (⟨#[43]⟩ : ByteArray), .string (⟨#[45]⟩ : ByteArray), .string (⟨#[42]⟩ : ByteArray), .string (⟨#[47]⟩ : ByteArray), .string (⟨#[37]⟩ : ByteArray), .string (⟨#[60]⟩ : ByteArray), .string (⟨#[61, 61]⟩ : ByteArray)] kr rfl (fun _ => buildCells_run kr _) rfl rfl st ⟨[.string (⟨#[43]⟩ : ByteArray)], _, rfl, rfl, ⟨[.string (⟨#[45]⟩ : ByteArray)], _, rfl, rfl, ⟨[.string (⟨#[42]⟩ : ByteArray)], _, rfl, rfl, ⟨[.string (⟨#[47]⟩ : ByteArray)], _, rfl, rfl, ⟨[.string (⟨#[37]⟩ : ByteArray)], _, rfl, rfl, ⟨[.string (⟨#[60]⟩ : ByteArray)], _, rfl, rfl, ⟨[.string (⟨#[61, 61]⟩ : ByteArray)], _, rfl, rfl, rfl⟩⟩⟩⟩⟩⟩⟩ ?_
         clear st
         intro b7 m40 w46 hle34 st r35
         have hm := Mem.le_trans hm hle34
         have r19 := r19.mono hle34
         have r2 := r2.mono hle34
         have hmS6 := Mem.le_trans hmS6 hle34
         refine ⟨⟨.inr ⟨Inv.anti st.inv hmS6, Piece.holds_anti st.tail.tail.tail.tail.head hmS6, trivial⟩, trivial⟩, ?_⟩
         refine WA_one 1 kr  (One_fn 122 146 #[.pointer (some ⟨b1, 0, none⟩), .pointer (some ⟨b2, 0, none⟩), .pointer (some ⟨b3, 0, none⟩)] kr rfl ?_)
         refine W_calls Tryz.func146 rfl Tryz.ntmps146 [(0, .pointer (some ⟨b1, 0, none⟩)), (1, .pointer (some ⟨b2, 0, none⟩)), (2, .pointer (some ⟨b3, 0, none⟩))] kr rfl ?_
         refine W_sr (WO_seg 1 [] kr kr ?_)
         refine WO_et rfl (W_sr ?_)
         refine WO_one rfl (One_load_own (d := 4) (t := 26) (x := (.tmp 0)) (.pointer (some ⟨bp0, 0, none⟩)) kr rfl (ev (.pointer (some ⟨b1, 0, none⟩))) st.tail.tail.tail.tail.head kr ?_)
         refine WO_one rfl (One_load_own (d := 5) (t := 3) (x := (.tmp 1)) (.int .i64 p1) kr rfl (ev (.pointer (some ⟨b2, 0, none⟩))) st.tail.tail.tail.head kr ?_)
         refine WO_seg 1 [(6, .int .i64 (IntKind.wrap .i64 (p1 - 1)))] kr kr ?_
         refine WO_one rfl (One_load_own (d := 7) (t := 33) (x := (.tmp 2)) (.slice a2 (List.length p2) c2) kr rfl (ev (.pointer (some ⟨b3, 0, none⟩))) st.tail.tail.head kr ?_)
         have st := st.front1
         replace ⟨y28, hx53, hr⟩ := bindS hr
         refine WO_one rfl (One_fn 8 117 #[.pointer (some ⟨bp0, 0, none⟩), .int .i64 (IntKind.wrap .i64 (p1 - 1)), .slice a2 (List.length p2) c2] kr rfl ?_)
         refine (ih_testgatemake_Expr st r19 r2 hx53).mono ?_
         clear st
         rintro _ w47 ⟨a32, c32, m41, rfl, hle35, st, r36⟩
         refine ⟨_, rfl, ?_⟩
         have hm := Mem.le_trans hm hle35
         have r2 := r2.mono hle35
         have r35 := r35.mono hle35
         have r19 := r19.mono hle35
         have hmS6 := Mem.le_trans hmS6 hle35
         refine WO_seg 1 [(3, .string y28.2)] kr kr ?_
         refine WO_et rfl (W_ret ?_)
         refine X_ret [.tmp 3] [.string y28.2] rfl (ResAll.cons (ResAt.tmp kr) ResAll.nil) ?_
         refine ⟨_, rfl, ?_⟩
         refine ⟨⟨.inr ⟨Inv.anti st.inv hmS6, Piece.holds_anti st.tail.tail.tail.tail.head hmS6, trivial⟩, trivial⟩, ?_⟩
         replace ⟨s27, hx54, hr⟩ := bindS hr
         refine WA_cat (t := 9) (t2 := 9) (x := (.const (.string (⟨#[40]⟩ : ByteArray)))) (y := (.tmp 122)) 2 123 kr rfl kr (.head _) (QP_then QP_body) (ev (.string (⟨#[40]⟩ : ByteArray))) (ev (.string y28.2)) hx54 ?_
         replace ⟨s28, hx55, hr⟩ := bindS hr
         refine WA_cat (t := 9) (t2 := 9) (x := (.tmp 123)) (y := (.const (.string (⟨#[41, 32]⟩ : ByteArray)))) 3 124 kr rfl kr (.head _) (QP_then QP_body) (ev (.string s27)) (ev (.string (⟨#[41, 32]⟩ : ByteArray))) hx55 ?_
         replace ⟨y29, hx56, hr⟩ := bindS hr
         refine WA_one 6 kr  (One_fn 127 13 #[.pointer (some ⟨bp0, 0, none⟩), .slice (some ⟨b7, 0, none⟩) (List.length ([(⟨#[43]⟩ : ByteArray), (⟨#[45]⟩ : ByteArray), (⟨#[42]⟩ : ByteArray), (⟨#[47]⟩ : ByteArray), (⟨#[37]⟩ : ByteArray), (⟨#[60]⟩ : ByteArray), (⟨#[61, 61]⟩ : ByteArray)])) 7] kr rfl ?_)
         refine (testgatemake_Tape_One_ok st r36 r35 hx56).mono ?_
         clear st
         rintro _ w48 ⟨a33, c33, m42, rfl, hle36, st, r37⟩
         refine ⟨_, rfl, ?_⟩
         have hm := Mem.le_trans hm hle36
         have r35 := r35.mono hle36
         have r36 := r36.mono hle36
         have r2 := r2.mono hle36
         have hmS6 := Mem.le_trans hmS6 hle36
         refine ⟨⟨.inr ⟨Inv.anti st.inv hmS6, Piece.holds_anti st.tail.tail.tail.tail.head hmS6, trivial⟩, trivial⟩, ?_⟩
         replace ⟨s29, hx57, hr⟩ := bindS hr
         refine WA_cat (t := 9) (t2 := 9) (x := (.tmp 124)) (y := (.tmp 127)) 7 128 kr rfl kr (.head _) (QP_then QP_body) (ev (.string s28)) (ev (.string y29.2)) hx57 ?_
         replace ⟨s30, hx58, hr⟩ := bindS hr
         refine WA_cat (t := 9) (t2 := 9) (x := (.tmp 128)) (y := (.const (.string (⟨#[32, 40]⟩ : ByteArray)))) 8 129 kr rfl kr (.head _) (QP_then QP_body) (ev (.string s29)) (ev (.string (⟨#[32, 40]⟩ : ByteArray))) hx58 ?_
         refine WA_one 10 kr  (One_fn 131 146 #[.pointer (some ⟨b1, 0, none⟩), .pointer (some ⟨b2, 0, none⟩), .pointer (some ⟨b3, 0, none⟩)] kr rfl ?_)
         refine W_calls Tryz.func146 rfl Tryz.ntmps146 [(0, .pointer (some ⟨b1, 0, none⟩)), (1, .pointer (some ⟨b2, 0, none⟩)), (2, .pointer (some ⟨b3, 0, none⟩))] kr rfl ?_
         refine W_sr (WO_seg 1 [] kr kr ?_)
         refine WO_et rfl (W_sr ?_)
         refine WO_one rfl (One_load_own (d := 4) (t := 26) (x := (.tmp 0)) (.pointer (some ⟨bp0, 0, none⟩)) kr rfl (ev (.pointer (some ⟨b1, 0, none⟩))) st.tail.tail.tail.tail.head kr ?_)
         refine WO_one rfl (One_load_own (d := 5) (t := 3) (x := (.tmp 1)) (.int .i64 p1) kr rfl (ev (.pointer (some ⟨b2, 0, none⟩))) st.tail.tail.tail.head kr ?_)
         refine WO_seg 1 [(6, .int .i64 (IntKind.wrap .i64 (p1 - 1)))] kr kr ?_
         refine WO_one rfl (One_load_own (d := 7) (t := 33) (x := (.tmp 2)) (.slice a2 (List.length p2) c2) kr rfl (ev (.pointer (some ⟨b3, 0, none⟩))) st.tail.tail.head kr ?_)
         replace ⟨y30, hx59, hr⟩ := bindS hr
         refine WO_one rfl (One_fn 8 117 #[.pointer (some ⟨bp0, 0, none⟩), .int .i64 (IntKind.wrap .i64 (p1 - 1)), .slice a2 (List.length p2) c2] kr rfl ?_)
         refine (ih_testgatemake_Expr st r37 r2 hx59).mono ?_
         clear st
         rintro _ w49 ⟨a34, c34, m43, rfl, hle37, st, r38⟩
         refine ⟨_, rfl, ?_⟩
         have hm := Mem.le_trans hm hle37
         have r2 := r2.mono hle37
         have r35 := r35.mono hle37
         have r37 := r37.mono hle37
         have hmS6 := Mem.le_trans hmS6 hle37
         refine WO_seg 1 [(3, .string y30.2)] kr kr ?_
         refine WO_et rfl (W_ret ?_)
         refine X_ret [.tmp 3] [.string y30.2] rfl (ResAll.cons (ResAt.tmp kr) ResAll.nil) ?_
         refine ⟨_, rfl, ?_⟩
         refine ⟨⟨.inr ⟨Inv.anti st.inv hmS6, Piece.holds_anti st.tail.tail.tail.tail.head hmS6, trivial⟩, trivial⟩, ?_⟩
         replace ⟨s31, hx60, hr⟩ := bindS hr
         refine WA_cat (t := 9) (t2 := 9) (x := (.tmp 129)) (y := (.tmp 131)) 11 132 kr rfl kr (.head _) (QP_then QP_body) (ev (.string s30)) (ev (.string y30.2)) hx60 ?_
         replace ⟨s32, hx61, hr⟩ := bindS hr
         refine WA_cat (t := 9) (t2 := 9) (x := (.tmp 132)) (y := (.const (.string (⟨#[41]⟩ : ByteArray)))) 12 133 kr rfl kr (.head _) (QP_then QP_body) (ev (.string s31)) (ev (.string (⟨#[41]⟩ : ByteArray))) hx61 ?_
         refine WA_pure 13 6 (.string s32) kr rfl kr (.head _) (QP_then QP_body) ?_
         refine WA_done kr ?_
         have st := st.front1
         have st := st.tail
         refine X_then ?_
         refine W_ret ?_
         obtain rfl := Option.some.inj hr
         refine X_ret [.tmp 6] [.string s32] rfl (ResAll.cons (ResAt.tmp kr) ResAll.nil) ?_
         have st := st.front1
         have st := st.tail
         have st := st.front1
         have st := st.tail
         have st := st.front1
         have st := st.tail
         exact ⟨a34, c34, m43, rfl, hm, st, r38⟩
   ·intro Ku3
    clear hrKu3
    refine W_cond (y15.2 == 0) kr ?_ ?_
    ·intro hc
     rw [if_pos hc] at hr
     refine W_skip ?_
     obtain rfl := Option.some.inj hr
     have st := st.front3.front3.front3.front3
     exact X_env _ kr (Ku3 _ _ ⟨m23, rfl, hm, st, r19, r2⟩)
    ·intro hc
     rw [if_neg (not_true hc)] at hr
     refine W_sr (WO_seg 2 [(65, .bool (y15.2 == 1))] kr kr ?_)
     refine WO_et rfl (W_cond (y15.2 == 1) kr ?_ ?_)
     ·intro hc
      rw [if_pos hc] at hr
      refine W_skip ?_
      obtain rfl := Option.some.inj hr
      have st := st.front3.front3.front3.front3
      exact X_env _ kr (Ku3 _ _ ⟨m23, rfl, hm, st, r19, r2⟩)
     ·intro hc
      rw [if_neg (not_true hc)] at hr
      refine W_region ?_
      refine WO_seg 2 [(65, .bool (y15.2 == 2))] kr kr ?_
      refine WO_end rfl ?_
      obtain rfl := Option.some.inj hr
      have st := st.front3.front3.front3.front3
      exact X_env _ kr (Ku3 _ _ ⟨m23, rfl, hm, st, r19, r2⟩)
 ·intro K
  clear hrK
  refine WO_one rfl (One_load_own (d := 10) (t := 3) (x := (.tmp 4)) (.int .i64 p1) kr rfl (ev (.pointer (some ⟨b2, 0, none⟩))) st.tail.head kr ?_)
  refine WO_seg 2 [(12, .bool (decide (p1 ≤ 0)))] kr kr ?_
  rcases bcases (decide (p1 ≤ 0)) with hc | hc
  ·rw [if_pos hc] at hr
   refine WO_fact (t := 12) (b := true) (decide (p1 ≤ 0)) kr hc ?_
   refine WO_seg 3 [(15, .bool true)] kr kr ?_
   obtain rfl := Option.some.inj hr
   have st := st.front3.front3.front3.front3
   exact WO_env _ kr (K _ _ ⟨a1, c1, m, rfl, hm, st, r2, r1⟩)
  ·rw [if_neg (not_true hc)] at hr
   refine WO_fact (t := 12) (b := false) (decide (p1 ≤ 0)) kr hc ?_
   refine WO_one rfl (One_load_own (d := 13) (t := 26) (x := (.tmp 3)) (.pointer (some ⟨bp0, 0, none⟩)) kr rfl (ev (.pointer (some ⟨b1, 0, none⟩))) st.tail.tail.head kr ?_)
   have st := st.front3
   replace ⟨y1, hx1, hr⟩ := bindS hr
   refine WO_one rfl (One_fn 14 29 #[.pointer (some ⟨bp0, 0, none⟩), .int .i64 1, .int .i64 4] kr rfl ?_)
   refine (testgatemake_Tape_Chance_ok st r1 hx1).mono ?_
   clear st
   rintro _ w5 ⟨a4, c4, m5, rfl, hle4, st, r4⟩
   refine ⟨_, rfl, ?_⟩
   have hm := Mem.le_trans hm hle4
   have r1 := r1.mono hle4
   have r2 := r2.mono hle4
   refine WO_seg 1 [(15, .bool y1.2)] kr kr ?_
   obtain rfl := Option.some.inj hr
   have st := st.front3.front3.front3
   exact WO_env _ kr (K _ _ ⟨a4, c4, m5, rfl, hm, st, r2, r4⟩)
theorem testgatemake_Expr_G_ok (N : Nat) : ∀ D : Nat, (∀ {m : Mem} {own : List Piece} {w : World} {p0 : List Int × Int} {p1 : Int} {p2 : List ByteArray} {bp0 : Nat} {a1 : Option Addr} {c1 : Nat} {a2 : Option Addr} {c2 : Nat} {r : (List Int × Int) × ByteArray} (st : St m (.blk bp0 (.cells #[.slice a1 (List.length p0.1) c1, .int .i64 p0.2] 28 (0, 0)) :: own) w) (r1 : RepS (cInt .i64) m a1 c1 p0.1) (r2 : RepS cStr m a2 c2 p2) (hr : (testgatemake_Expr_G N D) p0 p1 p2 = some r), Calls Tryz.prog 117 #[.pointer (some ⟨bp0, 0, none⟩), .int .i64 p1, .slice a2 (List.length p2) c2] w fun e w' => ∃ (ra1 : Option Addr) (rc1 : Nat) (m' : Mem), e = .returned (.string r.2) ∧ m.le m' ∧ St m' (.blk bp0 (.cells #[.slice ra1 (List.length r.1.1) rc1, .int .i64 r.1.2] 28 (0, 0)) :: own) w' ∧ RepS (cInt .i64) m' ra1 rc1 r.1.1)
 | 0 => fun _ _ _ hr => by cases hr
 | D + 1 => fun st r1 r2 hr => testgatemake_Expr_B_ok (testgatemake_Expr_G_ok N D) st r1 r2 hr
theorem testgatemake_Expr_ok {N : Nat} {m : Mem} {own : List Piece} {w : World} {p0 : List Int × Int} {p1 : Int} {p2 : List ByteArray} {bp0 : Nat} {a1 : Option Addr} {c1 : Nat} {a2 : Option Addr} {c2 : Nat} {r : (List Int × Int) × ByteArray} (st : St m (.blk bp0 (.cells #[.slice a1 (List.length p0.1) c1, .int .i64 p0.2] 28 (0, 0)) :: own) w) (r1 : RepS (cInt .i64) m a1 c1 p0.1) (r2 : RepS cStr m a2 c2 p2) (hr : testgatemake_Expr N p0 p1 p2 = some r) : Calls Tryz.prog 117 #[.pointer (some ⟨bp0, 0, none⟩), .int .i64 p1, .slice a2 (List.length p2) c2] w fun e w' => ∃ (ra1 : Option Addr) (rc1 : Nat) (m' : Mem), e = .returned (.string r.2) ∧ m.le m' ∧ St m' (.blk bp0 (.cells #[.slice ra1 (List.length r.1.1) rc1, .int .i64 r.1.2] 28 (0, 0)) :: own) w' ∧ RepS (cInt .i64) m' ra1 rc1 r.1.1 :=
 (testgatemake_Expr_G_ok N N) st r1 r2 hr
def testgatemake_Decl (N : Nat) (p0 : List Int × Int) : Option ((List Int × Int) × ByteArray) :=
 (testgatemake_Tape_Next N (p0.1, p0.2) 8).bind fun y1 => (if (y1.2 == 0) = true then (some (y1.2 == 0)) else (if (y1.2 == 1) = true then (some (y1.2 == 1)) else (some (y1.2 == 2))) : Option (Bool)).bind fun o1 => if o1 = true then ((testgatemake_Tests N).bind fun y2 => (testgatemake_Tape_One N (y1.1.1, y1.1.2) y2).bind fun y3 => (catB (⟨#[116, 101, 115, 116, 32]⟩ : ByteArray) y3.2).bind fun s1 => (catB s1 (⟨#[32, 61, 32]⟩ : ByteArray)).bind fun s2 => (testgatemake_Expr N (y3.1.1, y3.1.2) 3 ([] : List (ByteArray))).bind fun y4 => (catB s2 y4.2).bind fun s3 => (catB s3 (⟨#[59, 10]⟩ : ByteArray)).bind fun s4 => some ((y4.1.1, y4.1.2), s4)) else (if (y1.2 == 3) = true then ((testgatemake_Paths N).bind fun y5 => (testgatemake_Tape_One N (y1.1.1, y1.1.2) y5).bind fun y6 => (catB (⟨#[103, 101, 110, 32, 34]⟩ : ByteArray) y6.2).bind fun s5 => (catB s5 (⟨#[34, 32, 61, 32]⟩ : ByteArray)).bind fun s6 => (testgatemake_Expr N (y6.1.1, y6.1.2) 2 ([] : List (ByteArray))).bind fun y7 => (catB s6 y7.2).bind fun s7 => (catB s7 (⟨#[59, 10]⟩ : ByteArray)).bind fun s8 => some ((y7.1.1, y7.1.2), s8)) else ((testgatemake_Tape_Chance N (y1.1.1, y1.1.2) 1 5).bind fun y8 => (if y8.2 = true then ((appendS 16 ([(⟨#[97]⟩ : ByteArray)]) ([(⟨#[98]⟩ : ByteArray)])).bind fun l1 => some l1) else (some ([(⟨#[97]⟩ : ByteArray)])) : Option (List (ByteArray))).bind fun o2 => (testgatemake_Functions N).bind fun y9 => (testgatemake_Tape_One N (y8.1.1, y8.1.2) y9).bind fun y10 => (catB (⟨#[102, 117, 110, 99, 32]⟩ : ByteArray) y10.2).bind fun s9 => (catB s9 (⟨#[40, 97]⟩ : ByteArray)).bind fun s10 => (if ((List.length o2 : Int) == 2) = true then ((catB s10 (⟨#[44, 32, 98]⟩ : ByteArray)).bind fun s11 => some s11) else (some s10) : Option (ByteArray)).bind fun o3 => (catB o3 (⟨#[41, 32, 61, 32]⟩ : ByteArray)).bind fun s12 => (testgatemake_Expr N (y10.1.1, y10.1.2) 3 o2).bind fun y11 => (catB s12 y11.2).bind fun s13 => (catB s13 (⟨#[59, 10]⟩ : ByteArray)).bind fun s14 => some ((y11.1.1, y11.1.2), s14)))
set_option maxHeartbeats 4000000 in
set_option maxRecDepth 100000 in
theorem testgatemake_Decl_ok {N : Nat} {m : Mem} {own : List Piece} {w : World} {p0 : List Int × Int} {bp0 : Nat} {a1 : Option Addr} {c1 : Nat} {r : (List Int × Int) × ByteArray} (st : St m (.blk bp0 (.cells #[.slice a1 (List.length p0.1) c1, .int .i64 p0.2] 28 (0, 0)) :: own) w) (r1 : RepS (cInt .i64) m a1 c1 p0.1) (hr : testgatemake_Decl N p0 = some r) : Calls Tryz.prog 61 #[.pointer (some ⟨bp0, 0, none⟩)] w fun e w' => ∃ (ra1 : Option Addr) (rc1 : Nat) (m' : Mem), e = .returned (.string r.2) ∧ m.le m' ∧ St m' (.blk bp0 (.cells #[.slice ra1 (List.length r.1.1) rc1, .int .i64 r.1.2] 28 (0, 0)) :: own) w' ∧ RepS (cInt .i64) m' ra1 rc1 r.1.1 := by
 unfold testgatemake_Decl at hr
 have hm := m.le_refl
 refine W_calls Tryz.func61 rfl Tryz.ntmps61 [(0, .pointer (some ⟨bp0, 0, none⟩))] kr rfl ?_
 refine W_sr (WO_seg 1 [] kr kr ?_)
 refine WO_et rfl (W_seq ?_)
 refine W_sr (WO_seg 1 [(5, .pointer (some ⟨bp0, 0, none⟩))] kr kr ?_)
 replace ⟨y1, hx1, hr⟩ := bindS hr
 refine WO_one rfl (One_fn 6 14 #[.pointer (some ⟨bp0, 0, none⟩), .int .i64 8] kr rfl ?_)
 refine (testgatemake_Tape_Next_ok st r1 hx1).mono ?_
 clear st
 rintro _ w1 ⟨a2, c2, m1, rfl, hle1, st, r2⟩
 refine ⟨_, rfl, ?_⟩
 have hm := Mem.le_trans hm hle1
 have r1 := r1.mono hle1
 refine WO_et rfl (W_block ?_)
 refine W_seq ?_
 refine W_sr (WO_seg 2 [(7, .bool (y1.2 == 0))] kr kr ?_)
 refine WO_et rfl ?_
 replace ⟨o1, hr, hrKu1⟩ := bindS hr
 refine W_cut .normal (fun L' w' => ∃ (m2 : Mem), L' = [(0, .pointer (some ⟨bp0, 0, none⟩)), (6, .int .i64 y1.2), (7, .bool o1)] ∧ m.le m2 ∧ St m2 (.blk bp0 (.cells #[.slice a2 (List.length y1.1.1) c2, .int .i64 y1.1.2] 28 (0, 0)) :: own) w' ∧ RepS (cInt .i64) m2 a2 c2 y1.1.1) ?_ ?_
 ·clear hr st
  have hr := hrKu1
  clear hrKu1
  rintro _ w2 ⟨m2, rfl, hm, st, r2⟩
  refine X_then ?_
  refine W_cond o1 kr ?_ ?_
  ·intro hc
   rw [if_pos hc] at hr
   refine W_sr (WO_seg 1 [(11, .pointer (some ⟨bp0, 0, none⟩))] kr kr ?_)
   replace ⟨y2, hx2, hr⟩ := bindS hr
   refine WO_one rfl (One_fn 12 104 #[] kr rfl ?_)
   refine (testgatemake_Tests_ok st hx2).mono ?_
   clear st
   rintro _ w3 ⟨a3, c3, m3, rfl, hle2, st, r3⟩
   refine ⟨_, rfl, ?_⟩
   have hm := Mem.le_trans hm hle2
   have r2 := r2.mono hle2
   have st := st.front1
   replace ⟨y3, hx3, hr⟩ := bindS hr
   refine WO_one rfl (One_fn 13 13 #[.pointer (some ⟨bp0, 0, none⟩), .slice a3 (List.length y2) c3] kr rfl ?_)
   refine (testgatemake_Tape_One_ok st r2 r3 hx3).mono ?_
   clear st
   rintro _ w4 ⟨a4, c4, m4, rfl, hle3, st, r4⟩
   refine ⟨_, rfl, ?_⟩
   have hm := Mem.le_trans hm hle3
   have r3 := r3.mono hle3
   have r2 := r2.mono hle3
   replace ⟨s1, hx4, hr⟩ := bindS hr
   refine WO_one rfl (One_cat (d := 14) (t := 9) (t2 := 9) (x := (.const (.string (⟨#[116, 101, 115, 116, 32]⟩ : ByteArray)))) (y := (.tmp 13)) kr rfl (ev (.string (⟨#[116, 101, 115, 116, 32]⟩ : ByteArray))) (ev (.string y3.2)) hx4 ?_)
   replace ⟨s2, hx5, hr⟩ := bindS hr
   refine WO_one rfl (One_cat (d := 15) (t := 9) (t2 := 9) (x := (.tmp 14)) (y := (.const (.string (⟨#[32, 61, 32]⟩ : ByteArray)))) kr rfl (ev (.string s1)) (ev (.string (⟨#[32, 61, 32]⟩ : ByteArray))) hx5 ?_)
   refine WO_seg 1 [(16, .pointer (some ⟨bp0, 0, none⟩))] kr kr ?_
   replace ⟨y4, hx6, hr⟩ := bindS hr
   refine WO_one rfl (One_fn 17 117 #[.pointer (some ⟨bp0, 0, none⟩), .int .i64 3, .slice none (List.length ([] : List (ByteArray))) 0] kr rfl ?_)
   refine (testgatemake_Expr_ok st r4 (RepS.nil _ _) hx6).mono ?_
   clear st
   rintro _ w5 ⟨a5, c5, m5, rfl, hle4, st, r5⟩
   refine ⟨_, rfl, ?_⟩
   have hm := Mem.le_trans hm hle4
   have r3 := r3.mono hle4
   have r4 := r4.mono hle4
   replace ⟨s3, hx7, hr⟩ := bindS hr
   refine WO_one rfl (One_cat (d := 18) (t := 9) (t2 := 9) (x := (.tmp 15)) (y := (.tmp 17)) kr rfl (ev (.string s2)) (ev (.string y4.2)) hx7 ?_)
   replace ⟨s4, hx8, hr⟩ := bindS hr
   refine WO_one rfl (One_cat (d := 19) (t := 9) (t2 := 9) (x := (.tmp 18)) (y := (.const (.string (⟨#[59, 10]⟩ : ByteArray)))) kr rfl (ev (.string s3)) (ev (.string (⟨#[59, 10]⟩ : ByteArray))) hx8 ?_)
   refine WO_seg 1 [(2, .string s4)] kr kr ?_
   refine WO_end rfl ?_
   have st := st.front1
   have st := st.tail
   refine X_then ?_
   refine W_ret ?_
   refine X_block_ret ?_
   refine X_then_ret ?_
   obtain rfl := Option.some.inj hr
   refine X_ret [.tmp 2] [.string s4] rfl (ResAll.cons (ResAt.tmp kr) ResAll.nil) ?_
   exact ⟨a5, c5, m5, rfl, hm, st, r5⟩
  ·intro hc
   rw [if_neg (not_true hc)] at hr
   refine W_sr (WO_seg 2 [(20, .bool (y1.2 == 3))] kr kr ?_)
   refine WO_et rfl (W_cond (y1.2 == 3) kr ?_ ?_)
   ·intro hc
    rw [if_pos hc] at hr
    refine W_sr (WO_seg 1 [(22, .pointer (some ⟨bp0, 0, none⟩))] kr kr ?_)
    replace ⟨y5, hx9, hr⟩ := bindS hr
    refine WO_one rfl (One_fn 23 105 #[] kr rfl ?_)
    refine (testgatemake_Paths_ok st hx9).mono ?_
    clear st
    rintro _ w6 ⟨a6, c6, m6, rfl, hle5, st, r6⟩
    refine ⟨_, rfl, ?_⟩
    have hm := Mem.le_trans hm hle5
    have r2 := r2.mono hle5
    have st := st.front1
    replace ⟨y6, hx10, hr⟩ := bindS hr
    refine WO_one rfl (One_fn 24 13 #[.pointer (some ⟨bp0, 0, none⟩), .slice a6 (List.length y5) c6] kr rfl ?_)
    refine (testgatemake_Tape_One_ok st r2 r6 hx10).mono ?_
    clear st
    rintro _ w7 ⟨a7, c7, m7, rfl, hle6, st, r7⟩
    refine ⟨_, rfl, ?_⟩
    have hm := Mem.le_trans hm hle6
    have r6 := r6.mono hle6
    have r2 := r2.mono hle6
    replace ⟨s5, hx11, hr⟩ := bindS hr
    refine WO_one rfl (One_cat (d := 25) (t := 9) (t2 := 9) (x := (.const (.string (⟨#[103, 101, 110, 32, 34]⟩ : ByteArray)))) (y := (.tmp 24)) kr rfl (ev (.string (⟨#[103, 101, 110, 32, 34]⟩ : ByteArray))) (ev (.string y6.2)) hx11 ?_)
    replace ⟨s6, hx12, hr⟩ := bindS hr
    refine WO_one rfl (One_cat (d := 26) (t := 9) (t2 := 9) (x := (.tmp 25)) (y := (.const (.string (⟨#[34, 32, 61, 32]⟩ : ByteArray)))) kr rfl (ev (.string s5)) (ev (.string (⟨#[34, 32, 61, 32]⟩ : ByteArray))) hx12 ?_)
    refine WO_seg 1 [(27, .pointer (some ⟨bp0, 0, none⟩))] kr kr ?_
    replace ⟨y7, hx13, hr⟩ := bindS hr
    refine WO_one rfl (One_fn 28 117 #[.pointer (some ⟨bp0, 0, none⟩), .int .i64 2, .slice none (List.length ([] : List (ByteArray))) 0] kr rfl ?_)
    refine (testgatemake_Expr_ok st r7 (RepS.nil _ _) hx13).mono ?_
    clear st
    rintro _ w8 ⟨a8, c8, m8, rfl, hle7, st, r8⟩
    refine ⟨_, rfl, ?_⟩
    have hm := Mem.le_trans hm hle7
    have r6 := r6.mono hle7
    have r7 := r7.mono hle7
    replace ⟨s7, hx14, hr⟩ := bindS hr
    refine WO_one rfl (One_cat (d := 29) (t := 9) (t2 := 9) (x := (.tmp 26)) (y := (.tmp 28)) kr rfl (ev (.string s6)) (ev (.string y7.2)) hx14 ?_)
    replace ⟨s8, hx15, hr⟩ := bindS hr
    refine WO_one rfl (One_cat (d := 30) (t := 9) (t2 := 9) (x := (.tmp 29)) (y := (.const (.string (⟨#[59, 10]⟩ : ByteArray)))) kr rfl (ev (.string s7)) (ev (.string (⟨#[59, 10]⟩ : ByteArray))) hx15 ?_)
    refine WO_seg 1 [(2, .string s8)] kr kr ?_
    refine WO_end rfl ?_
    have st := st.front1
    have st := st.tail
    refine X_then ?_
    refine W_ret ?_
    refine X_block_ret ?_
    refine X_then_ret ?_
    obtain rfl := Option.some.inj hr
    refine X_ret [.tmp 2] [.string s8] rfl (ResAll.cons (ResAt.tmp kr) ResAll.nil) ?_
    exact ⟨a8, c8, m8, rfl, hm, st, r8⟩
   ·intro hc
    rw [if_neg (not_true hc)] at hr
    refine W_skip ?_
    refine X_block ?_
    refine X_then ?_
    refine W_sr (WO_one rfl (One_buildSlice (d := 31) (t := 33) (e := 9) (len := 1) (parts := #[(0, (.const (.string (⟨#[97]⟩ : ByteArray))))]) cStr (xs := [(⟨#[97]⟩ : ByteArray)]) [.string (⟨#[97]⟩ : ByteArray)] kr rfl (fun _ => buildCells_run kr _) rfl rfl st ⟨[.string (⟨#[97]⟩ : ByteArray)], _, rfl, rfl, rfl⟩ ?_))
    clear st
    intro b1 m9 w9 hle8 st r9
    have hm := Mem.le_trans hm hle8
    have r2 := r2.mono hle8
    refine WO_seg 1 [(3, .slice (some ⟨b1, 0, none⟩) (List.length ([(⟨#[97]⟩ : ByteArray)])) 1)] kr kr ?_
    refine WO_et rfl (W_seq ?_)
    refine W_sr (WO_seg 1 [(32, .pointer (some ⟨bp0, 0, none⟩))] kr kr ?_)
    have st := st.front1
    replace ⟨y8, hx16, hr⟩ := bindS hr
    refine WO_one rfl (One_fn 33 29 #[.pointer (some ⟨bp0, 0, none⟩), .int .i64 1, .int .i64 5] kr rfl ?_)
    refine (testgatemake_Tape_Chance_ok st r2 hx16).mono ?_
    clear st
    rintro _ w10 ⟨a9, c9, m10, rfl, hle9, st, r10⟩
    refine ⟨_, rfl, ?_⟩
    have hm := Mem.le_trans hm hle9
    have r9 := r9.mono hle9
    have r2 := r2.mono hle9
    refine WO_et rfl ?_
    replace ⟨o2, hr, hrKu2⟩ := bindS hr
    refine W_cut .normal (fun L' w' => ∃ (a10 : Option Addr) (c10 : Nat) (m11 : Mem), L' = [(0, .pointer (some ⟨bp0, 0, none⟩)), (3, .slice a10 (List.length o2) c10)] ∧ m.le m11 ∧ St m11 (.blk bp0 (.cells #[.slice a9 (List.length y8.1.1) c9, .int .i64 y8.1.2] 28 (0, 0)) :: .room a10 (List.length o2) c10 9 1 :: own) w' ∧ RepS cStr m11 a10 c10 o2 ∧ RepS (cInt .i64) m11 a9 c9 y8.1.1) ?_ ?_
    ·clear hr st
     have hr := hrKu2
     clear hrKu2
     rintro _ w11 ⟨a10, c10, m11, rfl, hm, st, r11, r10⟩
     refine X_then ?_
     refine W_sr (WO_seg 1 [(37, .pointer (some ⟨bp0, 0, none⟩))] kr kr ?_)
     replace ⟨y9, hx18, hr⟩ := bindS hr
     refine WO_one rfl (One_fn 38 21 #[] kr rfl ?_)
     refine (testgatemake_Functions_ok st hx18).mono ?_
     clear st
     rintro _ w14 ⟨a12, c12, m14, rfl, hle12, st, r14⟩
     refine ⟨_, rfl, ?_⟩
     have hm := Mem.le_trans hm hle12
     have r11 := r11.mono hle12
     have r10 := r10.mono hle12
     have st := st.front1
     replace ⟨y10, hx19, hr⟩ := bindS hr
     refine WO_one rfl (One_fn 39 13 #[.pointer (some ⟨bp0, 0, none⟩), .slice a12 (List.length y9) c12] kr rfl ?_)
     refine (testgatemake_Tape_One_ok st r10 r14 hx19).mono ?_
     clear st
     rintro _ w15 ⟨a13, c13, m15, rfl, hle13, st, r15⟩
     refine ⟨_, rfl, ?_⟩
     have hm := Mem.le_trans hm hle13
     have r11 := r11.mono hle13
     have r14 := r14.mono hle13
     have r10 := r10.mono hle13
     replace ⟨s9, hx20, hr⟩ := bindS hr
     refine WO_one rfl (One_cat (d := 40) (t := 9) (t2 := 9) (x := (.const (.string (⟨#[102, 117, 110, 99, 32]⟩ : ByteArray)))) (y := (.tmp 39)) kr rfl (ev (.string (⟨#[102, 117, 110, 99, 32]⟩ : ByteArray))) (ev (.string y10.2)) hx20 ?_)
     replace ⟨s10, hx21, hr⟩ := bindS hr
     refine WO_one rfl (One_cat (d := 41) (t := 9) (t2 := 9) (x := (.tmp 40)) (y := (.const (.string (⟨#[40, 97]⟩ : ByteArray)))) kr rfl (ev (.string s9)) (ev (.string (⟨#[40, 97]⟩ : ByteArray))) hx21 ?_)
     refine WO_seg 1 [(4, .string s10)] kr kr ?_
     refine WO_end rfl ?_
     have st := st.front1
     have st := st.tail
     refine X_then ?_
     refine W_seq ?_
     refine W_sr (WO_seg 3 [(44, .bool ((List.length o2 : Int) == 2))] kr kr ?_)
     refine WO_et rfl ?_
     replace ⟨o3, hr, hrKu3⟩ := bindS hr
     refine W_cut .normal (fun L' w' => ∃ (m16 : Mem), L' = [(0, .pointer (some ⟨bp0, 0, none⟩)), (3, .slice a10 (List.length o2) c10), (4, .string o3)] ∧ m.le m16 ∧ St m16 (.blk bp0 (.cells #[.slice a13 (List.length y10.1.1) c13, .int .i64 y10.1.2] 28 (0, 0)) :: .room a10 (List.length o2) c10 9 1 :: own) w' ∧ RepS cStr m16 a10 c10 o2 ∧ RepS (cInt .i64) m16 a13 c13 y10.1.1) ?_ ?_
     ·clear hr st
      have hr := hrKu3
      clear hrKu3
      rintro _ w16 ⟨m16, rfl, hm, st, r11, r15⟩
      refine X_then ?_
      refine W_sr (WO_seg 1 [(47, .string o3)] kr kr ?_)
      replace ⟨s12, hx23, hr⟩ := bindS hr
      refine WO_one rfl (One_cat (d := 48) (t := 9) (t2 := 9) (x := (.tmp 47)) (y := (.const (.string (⟨#[41, 32, 61, 32]⟩ : ByteArray)))) kr rfl (ev (.string o3)) (ev (.string (⟨#[41, 32, 61, 32]⟩ : ByteArray))) hx23 ?_)
      refine WO_seg 2 [(49, .pointer (some ⟨bp0, 0, none⟩)), (50, .slice a10 (List.length o2) c10)] kr kr ?_
      replace ⟨y11, hx24, hr⟩ := bindS hr
      refine WO_one rfl (One_fn 51 117 #[.pointer (some ⟨bp0, 0, none⟩), .int .i64 3, .slice a10 (List.length o2) c10] kr rfl ?_)
      refine (testgatemake_Expr_ok st r15 r11 hx24).mono ?_
      clear st
      rintro _ w17 ⟨a14, c14, m17, rfl, hle14, st, r16⟩
      refine ⟨_, rfl, ?_⟩
      have hm := Mem.le_trans hm hle14
      have r11 := r11.mono hle14
      have r15 := r15.mono hle14
      replace ⟨s13, hx25, hr⟩ := bindS hr
      refine WO_one rfl (One_cat (d := 52) (t := 9) (t2 := 9) (x := (.tmp 48)) (y := (.tmp 51)) kr rfl (ev (.string s12)) (ev (.string y11.2)) hx25 ?_)
      replace ⟨s14, hx26, hr⟩ := bindS hr
      refine WO_one rfl (One_cat (d := 53) (t := 9) (t2 := 9) (x := (.tmp 52)) (y := (.const (.string (⟨#[59, 10]⟩ : ByteArray)))) kr rfl (ev (.string s13)) (ev (.string (⟨#[59, 10]⟩ : ByteArray))) hx26 ?_)
      refine WO_seg 1 [(2, .string s14)] kr kr ?_
      refine WO_end rfl ?_
      have st := st.front1
      have st := st.tail
      refine X_then ?_
      refine W_ret ?_
      obtain rfl := Option.some.inj hr
      refine X_ret [.tmp 2] [.string s14] rfl (ResAll.cons (ResAt.tmp kr) ResAll.nil) ?_
      exact ⟨a14, c14, m17, rfl, hm, st, r16⟩
     ·intro Ku3
      clear hrKu3
      refine W_cond ((List.length o2 : Int) == 2) kr ?_ ?_
      ·intro hc
       rw [if_pos hc] at hr
       refine W_region ?_
       refine WO_seg 1 [(45, .string s10)] kr kr ?_
       replace ⟨s11, hx22, hr⟩ := bindS hr
       refine WO_one rfl (One_cat (d := 46) (t := 9) (t2 := 9) (x := (.tmp 45)) (y := (.const (.string (⟨#[44, 32, 98]⟩ : ByteArray)))) kr rfl (ev (.string s10)) (ev (.string (⟨#[44, 32, 98]⟩ : ByteArray))) hx22 ?_)
       refine WO_seg 1 [(4, .string s11)] kr kr ?_
       refine WO_end rfl ?_
       obtain rfl := Option.some.inj hr
       have st := st.front1.front1
       exact X_env _ kr (Ku3 _ _ ⟨m15, rfl, hm, st, r11, r15⟩)
      ·intro hc
       rw [if_neg (not_true hc)] at hr
       refine W_skip ?_
       obtain rfl := Option.some.inj hr
       have st := st.front1.front1
       exact X_env _ kr (Ku3 _ _ ⟨m15, rfl, hm, st, r11, r15⟩)
    ·intro Ku2
     clear hrKu2
     refine W_cond y8.2 kr ?_ ?_
     ·intro hc
      rw [if_pos hc] at hr
      refine W_region ?_
      refine WO_seg 1 [(34, .slice (some ⟨b1, 0, none⟩) (List.length ([(⟨#[97]⟩ : ByteArray)])) 1)] kr kr ?_
      refine WO_one rfl (One_buildSlice (d := 35) (t := 33) (e := 9) (len := 1) (parts := #[(0, (.const (.string (⟨#[98]⟩ : ByteArray))))]) cStr (xs := [(⟨#[98]⟩ : ByteArray)]) [.string (⟨#[98]⟩ : ByteArray)] kr rfl (fun _ => buildCells_run kr _) rfl rfl st ⟨[.string (⟨#[98]⟩ : ByteArray)], _, rfl, rfl, rfl⟩ ?_)
      clear st
      intro b2 m12 w12 hle10 st r12
      have hm := Mem.le_trans hm hle10
      have r9 := r9.mono hle10
      have r10 := r10.mono hle10
      have st := st.front2
      replace ⟨l1, hx17, hr⟩ := bindS hr
      refine WO_one rfl (One_append (d := 36) (t := 33) (u := 33) (e := 9) (by_ := 16) (x := (.tmp 34)) (y := (.tmp 35)) cStr kr rfl (ev (.slice (some ⟨b1, 0, none⟩) (List.length ([(⟨#[97]⟩ : ByteArray)])) 1)) (ev (.slice (some ⟨b2, 0, none⟩) (List.length ([(⟨#[98]⟩ : ByteArray)])) 1)) st kr (.inl kr) r9 r12.src hx17 ?_)
      clear st
      intro a11 c11 m13 w13 hle11 st r13
      have hm := Mem.le_trans hm hle11
      have r9 := r9.mono hle11
      have r12 := r12.mono hle11
      have r10 := r10.mono hle11
      refine WO_seg 1 [(3, .slice a11 (List.length l1) c11)] kr kr ?_
      refine WO_end rfl ?_
      have st := st.front1
      have st := st.tail
      obtain rfl := Option.some.inj hr
      have st := st.front1
      exact X_env _ kr (Ku2 _ _ ⟨a11, c11, m13, rfl, hm, st, r13, r10⟩)
     ·intro hc
      rw [if_neg (not_true hc)] at hr
      refine W_skip ?_
      obtain rfl := Option.some.inj hr
      have st := st.front1.front1
      exact X_env _ kr (Ku2 _ _ ⟨(some ⟨b1, 0, none⟩), 1, m10, rfl, hm, st, r9, r10⟩)
 ·intro Ku1
  clear hrKu1
  refine W_cond (y1.2 == 0) kr ?_ ?_
  ·intro hc
   rw [if_pos hc] at hr
   refine W_skip ?_
   obtain rfl := Option.some.inj hr
   exact X_env _ kr (Ku1 _ _ ⟨m1, rfl, hm, st, r2⟩)
  ·intro hc
   rw [if_neg (not_true hc)] at hr
   refine W_sr (WO_seg 2 [(7, .bool (y1.2 == 1))] kr kr ?_)
   refine WO_et rfl (W_cond (y1.2 == 1) kr ?_ ?_)
   ·intro hc
    rw [if_pos hc] at hr
    refine W_skip ?_
    obtain rfl := Option.some.inj hr
    exact X_env _ kr (Ku1 _ _ ⟨m1, rfl, hm, st, r2⟩)
   ·intro hc
    rw [if_neg (not_true hc)] at hr
    refine W_region ?_
    refine WO_seg 2 [(7, .bool (y1.2 == 2))] kr kr ?_
    refine WO_end rfl ?_
    obtain rfl := Option.some.inj hr
    exact X_env _ kr (Ku1 _ _ ⟨m1, rfl, hm, st, r2⟩)
def testgatemake_Source_L1 (N : Nat) (p1 : ByteArray) (s4 : ByteArray × List (ByteArray) × Int × List (Int) × Int) : Option ((ByteArray × List (ByteArray) × Int × List (Int) × Int) ⊕ ((ByteArray × List (Int) × Int))) :=
 if (decide (s4.2.2.1 > 0)) = true then (((testgatemake_Packages N).bind fun y3 => (testgatemake_Tape_One N (s4.2.2.2.1, s4.2.2.2.2) y3).bind fun y4 => (if (!(y4.2.toList == p1.toList)) = true then ((testgatemake_Has N s4.2.1 y4.2).bind fun y5 => some (!y5)) else (some false) : Option (Bool)).bind fun o4 => if o4 = true then ((appendS 16 s4.2.1 ([y4.2])).bind fun l1 => (catB (⟨#[105, 109, 112, 111, 114, 116, 32]⟩ : ByteArray) y4.2).bind fun s5 => (catB s5 (⟨#[59, 10]⟩ : ByteArray)).bind fun s6 => (catB s4.1 s6).bind fun s7 => some (s7, l1, y4.1.1, y4.1.2)) else (some (s4.1, s4.2.1, y4.1.1, y4.1.2)) : Option (ByteArray × List (ByteArray) × List (Int) × Int)).bind fun o3 => some (.inl (o3.1, o3.2.1, IntKind.wrap .i64 (s4.2.2.1 - 1), o3.2.2.1, o3.2.2.2))) else (some (.inr (s4.1, s4.2.2.2.1, s4.2.2.2.2)))
def testgatemake_Source_L3 (N : Nat) (y7 : (List Int × Int) × ByteArray) (s9 : ByteArray × Int) : Option ((ByteArray × Int) ⊕ ((ByteArray))) :=
 if (decide (s9.2 < (ByteArray.size y7.2 : Int))) = true then (((idxB y7.2 s9.2).bind fun x1 => if ((x1.toNat : Int) == 40) = true then (some true) else ((idxB y7.2 s9.2).bind fun x2 => some ((x2.toNat : Int) == 61)) : Option (Bool)).bind fun o8 => if o8 = true then ((subB y7.2 0 s9.2).bind fun s10 => some (.inr s10)) else (some (.inl (s9.1, IntKind.wrap .i64 (s9.2 + 1))))) else (some (.inr s9.1))
def testgatemake_Source_L2 (N : Nat) (s8 : ByteArray × List (ByteArray) × Int × List (Int) × Int) : Option ((ByteArray × List (ByteArray) × Int × List (Int) × Int) ⊕ ((ByteArray × List (Int) × Int))) :=
 if (decide (s8.2.2.1 > 0)) = true then (((testgatemake_Decl N (s8.2.2.2.1, s8.2.2.2.2)).bind fun y7 => (loopM (testgatemake_Source_L3 N y7) N (y7.2, 0)).bind fun o7 => ((testgatemake_Has N s8.2.1 o7).bind fun y8 => if (!y8) = true then (some (true, y7.1.1, y7.1.2)) else ((testgatemake_Tape_Chance N (y7.1.1, y7.1.2) 1 40).bind fun y9 => some (y9.2, y9.1.1, y9.1.2)) : Option (Bool × List (Int) × Int)).bind fun o9 => if o9.1 = true then ((appendS 16 s8.2.1 ([o7])).bind fun l2 => (catB s8.1 y7.2).bind fun s11 => some (s11, l2, o9.2.1, o9.2.2)) else (some (s8.1, s8.2.1, o9.2.1, o9.2.2)) : Option (ByteArray × List (ByteArray) × List (Int) × Int)).bind fun o6 => some (.inl (o6.1, o6.2.1, IntKind.wrap .i64 (s8.2.2.1 - 1), o6.2.2.1, o6.2.2.2))) else (some (.inr (s8.1, s8.2.2.2.1, s8.2.2.2.2)))
def testgatemake_Source (N : Nat) (p0 : List Int × Int) (p1 : ByteArray) : Option ((List Int × Int) × ByteArray) :=
 (catB (⟨#[112, 97, 99, 107, 97, 103, 101, 32]⟩ : ByteArray) p1).bind fun s1 => (catB s1 (⟨#[59, 10]⟩ : ByteArray)).bind fun s2 => (testgatemake_Tape_Chance N (p0.1, p0.2) 1 8).bind fun y1 => (if y1.2 = true then ((catB (⟨#[35, 32, 97, 32, 99, 111, 109, 109, 101, 110, 116, 10]⟩ : ByteArray) s2).bind fun s3 => some s3) else (some s2) : Option (ByteArray)).bind fun o1 => (testgatemake_Tape_Next N (y1.1.1, y1.1.2) 3).bind fun y2 => (loopM (testgatemake_Source_L1 N p1) N (o1, ([] : List (ByteArray)), y2.2, y2.1.1, y2.1.2)).bind fun o2 => (testgatemake_Tape_Next N (o2.2.1, o2.2.2) 5).bind fun y6 => (loopM (testgatemake_Source_L2 N) N (o2.1, ([] : List (ByteArray)), IntKind.wrap .i64 (1 + y6.2), y6.1.1, y6.1.2)).bind fun o5 => (testgatemake_Tape_Chance N (o5.2.1, o5.2.2) 1 30).bind fun y10 => (if y10.2 = true then ((testgatemake_Tape_One N (y10.1.1, y10.1.2) ([(⟨#[102, 117, 110, 99]⟩ : ByteArray), (⟨#[125]⟩ : ByteArray), (⟨#[34]⟩ : ByteArray), (⟨#[116, 101, 115, 116, 32, 116, 32, 61, 32, 49, 59]⟩ : ByteArray), (⟨#[120]⟩ : ByteArray)])).bind fun y11 => (catB o5.1 y11.2).bind fun s12 => some (s12, y11.1.1, y11.1.2)) else (some (o5.1, y10.1.1, y10.1.2)) : Option (ByteArray × List (Int) × Int)).bind fun o10 => some ((o10.2.1, o10.2.2), o10.1)
set_option maxHeartbeats 4000000 in
set_option maxRecDepth 100000 in
theorem testgatemake_Source_ok {N : Nat} {m : Mem} {own : List Piece} {w : World} {p0 : List Int × Int} {p1 : ByteArray} {bp0 : Nat} {a1 : Option Addr} {c1 : Nat} {r : (List Int × Int) × ByteArray} (st : St m (.blk bp0 (.cells #[.slice a1 (List.length p0.1) c1, .int .i64 p0.2] 28 (0, 0)) :: own) w) (r1 : RepS (cInt .i64) m a1 c1 p0.1) (hr : testgatemake_Source N p0 p1 = some r) : Calls Tryz.prog 58 #[.pointer (some ⟨bp0, 0, none⟩), .string p1] w fun e w' => ∃ (ra1 : Option Addr) (rc1 : Nat) (m' : Mem), e = .returned (.string r.2) ∧ m.le m' ∧ St m' (.blk bp0 (.cells #[.slice ra1 (List.length r.1.1) rc1, .int .i64 r.1.2] 28 (0, 0)) :: own) w' ∧ RepS (cInt .i64) m' ra1 rc1 r.1.1 := by
 unfold testgatemake_Source at hr
 have hm := m.le_refl
 refine W_calls Tryz.func58 rfl Tryz.ntmps58 [(0, .pointer (some ⟨bp0, 0, none⟩)), (1, .string p1)] kr rfl ?_
 refine W_sr (WO_seg 1 [] kr kr ?_)
 refine WO_et rfl (W_sr ?_)
 refine WO_seg 1 [(14, .string p1)] kr kr ?_
 replace ⟨s1, hx1, hr⟩ := bindS hr
 refine WO_one rfl (One_cat (d := 15) (t := 9) (t2 := 9) (x := (.const (.string (⟨#[112, 97, 99, 107, 97, 103, 101, 32]⟩ : ByteArray)))) (y := (.tmp 14)) kr rfl (ev (.string (⟨#[112, 97, 99, 107, 97, 103, 101, 32]⟩ : ByteArray))) (ev (.string p1)) hx1 ?_)
 replace ⟨s2, hx2, hr⟩ := bindS hr
 refine WO_one rfl (One_cat (d := 16) (t := 9) (t2 := 9) (x := (.tmp 15)) (y := (.const (.string (⟨#[59, 10]⟩ : ByteArray)))) kr rfl (ev (.string s1)) (ev (.string (⟨#[59, 10]⟩ : ByteArray))) hx2 ?_)
 refine WO_seg 1 [(5, .string s2)] kr kr ?_
 refine WO_et rfl (W_seq ?_)
 refine W_sr (WO_seg 1 [(17, .pointer (some ⟨bp0, 0, none⟩))] kr kr ?_)
 replace ⟨y1, hx3, hr⟩ := bindS hr
 refine WO_one rfl (One_fn 18 29 #[.pointer (some ⟨bp0, 0, none⟩), .int .i64 1, .int .i64 8] kr rfl ?_)
 refine (testgatemake_Tape_Chance_ok st r1 hx3).mono ?_
 clear st
 rintro _ w1 ⟨a2, c2, m1, rfl, hle1, st, r2⟩
 refine ⟨_, rfl, ?_⟩
 have hm := Mem.le_trans hm hle1
 have r1 := r1.mono hle1
 refine WO_et rfl ?_
 replace ⟨o1, hr, hrKu1⟩ := bindS hr
 refine W_cut .normal (fun L' w' => ∃ (m2 : Mem), L' = [(0, .pointer (some ⟨bp0, 0, none⟩)), (1, .string p1), (5, .string o1)] ∧ m.le m2 ∧ St m2 (.blk bp0 (.cells #[.slice a2 (List.length y1.1.1) c2, .int .i64 y1.1.2] 28 (0, 0)) :: own) w' ∧ RepS (cInt .i64) m2 a2 c2 y1.1.1) ?_ ?_
 ·clear hr st
  have hr := hrKu1
  clear hrKu1
  rintro _ w2 ⟨m2, rfl, hm, st, r2⟩
  refine X_then ?_
  refine W_sr (WO_seg 1 [(6, .slice none (List.length ([] : List (ByteArray))) 0)] kr kr ?_)
  refine WO_et rfl (W_seq ?_)
  refine W_sr (WO_seg 1 [(21, .pointer (some ⟨bp0, 0, none⟩))] kr kr ?_)
  replace ⟨y2, hx5, hr⟩ := bindS hr
  refine WO_one rfl (One_fn 22 14 #[.pointer (some ⟨bp0, 0, none⟩), .int .i64 3] kr rfl ?_)
  refine (testgatemake_Tape_Next_ok st r2 hx5).mono ?_
  clear st
  rintro _ w3 ⟨a3, c3, m3, rfl, hle2, st, r3⟩
  refine ⟨_, rfl, ?_⟩
  have hm := Mem.le_trans hm hle2
  have r2 := r2.mono hle2
  refine WO_seg 1 [(7, .int .i64 y2.2)] kr kr ?_
  refine WO_et rfl (W_block ?_)
  replace ⟨out1, hr, hrKu2⟩ := bindS hr
  refine W_cut (.exit 0) (fun L' w' => ∃ (o2 : ByteArray × List (Int) × Int) (a4 : Option Addr) (c4 : Nat) (m4 : Mem), o2 = out1 ∧ L' = [(0, .pointer (some ⟨bp0, 0, none⟩)), (5, .string o2.1)] ∧ m.le m4 ∧ St m4 (.blk bp0 (.cells #[.slice a4 (List.length o2.2.1) c4, .int .i64 o2.2.2] 28 (0, 0)) :: own) w' ∧ RepS (cInt .i64) m4 a4 c4 o2.2.1) ?_ ?_
  ·clear hr st
   rintro _ w4 ⟨o2, a4, c4, m4, rfl, rfl, hm, st, r4⟩
   have hr := hrKu2
   clear hrKu2
   refine X_block_eq ?_
   refine X_then ?_
   refine W_sr (WO_seg 1 [(9, .slice none (List.length ([] : List (ByteArray))) 0)] kr kr ?_)
   refine WO_et rfl (W_seq ?_)
   refine W_sr (WO_seg 1 [(48, .pointer (some ⟨bp0, 0, none⟩))] kr kr ?_)
   replace ⟨y6, hx13, hr⟩ := bindS hr
   refine WO_one rfl (One_fn 49 14 #[.pointer (some ⟨bp0, 0, none⟩), .int .i64 5] kr rfl ?_)
   refine (testgatemake_Tape_Next_ok st r4 hx13).mono ?_
   clear st
   rintro _ w13 ⟨a12, c12, m13, rfl, hle8, st, r13⟩
   refine ⟨_, rfl, ?_⟩
   have hm := Mem.le_trans hm hle8
   have r4 := r4.mono hle8
   refine WO_seg 2 [(10, .int .i64 (IntKind.wrap .i64 (1 + y6.2)))] kr kr ?_
   refine WO_et rfl (W_block ?_)
   replace ⟨out2, hr, hrKu5⟩ := bindS hr
   refine W_cut (.exit 2) (fun L' w' => ∃ (o5 : ByteArray × List (Int) × Int) (a13 : Option Addr) (c13 : Nat) (m14 : Mem), o5 = out2 ∧ L' = [(0, .pointer (some ⟨bp0, 0, none⟩)), (5, .string o5.1)] ∧ m.le m14 ∧ St m14 (.blk bp0 (.cells #[.slice a13 (List.length o5.2.1) c13, .int .i64 o5.2.2] 28 (0, 0)) :: own) w' ∧ RepS (cInt .i64) m14 a13 c13 o5.2.1) ?_ ?_
   ·clear hr st
    rintro _ w14 ⟨o5, a13, c13, m14, rfl, rfl, hm, st, r14⟩
    have hr := hrKu5
    clear hrKu5
    refine X_block_eq ?_
    refine X_then ?_
    refine W_seq ?_
    refine W_sr (WO_seg 1 [(92, .pointer (some ⟨bp0, 0, none⟩))] kr kr ?_)
    replace ⟨y10, hx22, hr⟩ := bindS hr
    refine WO_one rfl (One_fn 93 29 #[.pointer (some ⟨bp0, 0, none⟩), .int .i64 1, .int .i64 30] kr rfl ?_)
    refine (testgatemake_Tape_Chance_ok st r14 hx22).mono ?_
    clear st
    rintro _ w26 ⟨a22, c22, m26, rfl, hle14, st, r24⟩
    refine ⟨_, rfl, ?_⟩
    have hm := Mem.le_trans hm hle14
    have r14 := r14.mono hle14
    refine WO_et rfl ?_
    replace ⟨o10, hr, hrKu10⟩ := bindS hr
    refine W_cut .normal (fun L' w' => ∃ (a23 : Option Addr) (c23 : Nat) (m27 : Mem), L' = [(5, .string o10.1)] ∧ m.le m27 ∧ St m27 (.blk bp0 (.cells #[.slice a23 (List.length o10.2.1) c23, .int .i64 o10.2.2] 28 (0, 0)) :: own) w' ∧ RepS (cInt .i64) m27 a23 c23 o10.2.1) ?_ ?_
    ·clear hr st
     have hr := hrKu10
     clear hrKu10
     rintro _ w27 ⟨a23, c23, m27, rfl, hm, st, r25⟩
     refine X_then ?_
     refine W_sr (WO_seg 2 [(4, .string o10.1)] kr kr ?_)
     refine WO_et rfl (W_ret ?_)
     obtain rfl := Option.some.inj hr
     refine X_ret [.tmp 4] [.string o10.1] rfl (ResAll.cons (ResAt.tmp kr) ResAll.nil) ?_
     exact ⟨a23, c23, m27, rfl, hm, st, r25⟩
    ·intro Ku10
     clear hrKu10
     refine W_cond y10.2 kr ?_ ?_
     ·intro hc
      rw [if_pos hc] at hr
      refine W_region ?_
      refine WO_seg 2 [(94, .string o5.1), (95, .pointer (some ⟨bp0, 0, none⟩))] kr kr ?_
      refine WO_one rfl (One_buildSlice (d := 96) (t := 33) (e := 9) (len := 5) (parts := #[(0, (.const (.string (⟨#[102, 117, 110, 99]⟩ : ByteArray)))), (1, (.const (.string (⟨#[125]⟩ : ByteArray)))), (2, (.const (.string (⟨#[34]⟩ : ByteArray)))), (3, (.const (.string (⟨#[116, 101, 115, 116, 32, 116, 32, 61, 32, 49, 59]⟩ : ByteArray)))), (4, (.const (.string (⟨#[120]⟩ : ByteArray))))]) cStr (xs := [(⟨#[102, 117, 110, 99]⟩ : ByteArray), (⟨#[125]⟩ : ByteArray), (⟨#[34]⟩ : ByteArray), (⟨#[116, 101, 115, 116, 32, 116, 32, 61, 32, 49, 59]⟩ : ByteArray), (⟨#[120]⟩ : ByteArray)]) [.string (⟨#[102, 117, 110, 99]⟩ : ByteArray), .string (⟨#[125]⟩ : ByteArray), .string (⟨#[34]⟩ : ByteArray), .string (⟨#[116, 101, 115, 116, 32, 116, 32, 61, 32, 49, 59]⟩ : ByteArray), .string (⟨#[120]⟩ : ByteArray)] kr rfl (fun _ => buildCells_run kr _) rfl rfl st ⟨[.string (⟨#[102, 117, 110, 99]⟩ : ByteArray)], _, rfl, rfl, ⟨[.string (⟨#[125]⟩ : ByteArray)], _, rfl, rfl, ⟨[.string (⟨#[34]⟩ : ByteArray)], _, rfl, rfl, ⟨[.string (⟨#[116, 101, 115, 116, 32, 116, 32, 61, 32, 49, 59]⟩ : ByteArray)], _, rfl, rfl, ⟨[.string (⟨#[120]⟩ : ByteArray)], _, rfl, rfl, rfl⟩⟩⟩⟩⟩ ?_)
      clear st
      intro b3 m28 w28 hle15 st r26
      have hm := Mem.le_trans hm hle15
      have r24 := r24.mono hle15
      have st := st.front1
      replace ⟨y11, hx23, hr⟩ := bindS hr
      refine WO_one rfl (One_fn 97 13 #[.pointer (some ⟨bp0, 0, none⟩), .slice (some ⟨b3, 0, none⟩) (List.length ([(⟨#[102, 117, 110, 99]⟩ : ByteArray), (⟨#[125]⟩ : ByteArray), (⟨#[34]⟩ : ByteArray), (⟨#[116, 101, 115, 116, 32, 116, 32, 61, 32, 49, 59]⟩ : ByteArray), (⟨#[120]⟩ : ByteArray)])) 5] kr rfl ?_)
      refine (testgatemake_Tape_One_ok st r24 r26 hx23).mono ?_
      clear st
      rintro _ w29 ⟨a24, c24, m29, rfl, hle16, st, r27⟩
      refine ⟨_, rfl, ?_⟩
      have hm := Mem.le_trans hm hle16
      have r26 := r26.mono hle16
      have r24 := r24.mono hle16
      replace ⟨s12, hx24, hr⟩ := bindS hr
      refine WO_one rfl (One_cat (d := 98) (t := 9) (t2 := 9) (x := (.tmp 94)) (y := (.tmp 97)) kr rfl (ev (.string o5.1)) (ev (.string y11.2)) hx24 ?_)
      refine WO_seg 1 [(5, .string s12)] kr kr ?_
      refine WO_end rfl ?_
      have st := st.front1
      have st := st.tail
      obtain rfl := Option.some.inj hr
      exact X_env _ kr (Ku10 _ _ ⟨a24, c24, m29, rfl, hm, st, r27⟩)
     ·intro hc
      rw [if_neg (not_true hc)] at hr
      refine W_skip ?_
      obtain rfl := Option.some.inj hr
      exact X_env _ kr (Ku10 _ _ ⟨a22, c22, m26, rfl, hm, st, r24⟩)
   intro K2_u5
   clear hrKu5
   have st := st.nilroom 9 1
   have st := st.front1
   refine W_env _ kr (W_loop (fun k2 L' w' => ∃ (s8 : ByteArray × List (ByteArray) × Int × List (Int) × Int) (a14 : Option Addr) (c14 : Nat) (a15 : Option Addr) (c15 : Nat) (m15 : Mem), loopM (testgatemake_Source_L2 N) k2 s8 = some out2 ∧ L' = [(0, .pointer (some ⟨bp0, 0, none⟩)), (5, .string s8.1), (9, .slice a14 (List.length s8.2.1) c14), (10, .int .i64 s8.2.2.1)] ∧ m.le m15 ∧ St m15 (.blk bp0 (.cells #[.slice a15 (List.length s8.2.2.2.1) c15, .int .i64 s8.2.2.2.2] 28 (0, 0)) :: .room a14 (List.length s8.2.1) c14 9 1 :: own) w' ∧ RepS cStr m15 a14 c14 s8.2.1 ∧ RepS (cInt .i64) m15 a15 c15 s8.2.2.2.1) N ⟨(o2.1, ([] : List (ByteArray)), IntKind.wrap .i64 (1 + y6.2), y6.1.1, y6.1.2), none, 0, a12, c12, m13, hr, rfl, hm, st, (RepS.nil _ _), r13⟩ ?_)
   clear st hr
   rintro k2 _ w15 ⟨s8, a14, c14, a15, c15, m15, hL, rfl, hm, st, r15, r16⟩
   rcases k2 with _ | k2
   ·exact loopM_zero hL
   ·obtain ⟨qu5, hr, hSu5, hBu5⟩ := loopM_succ hL
    clear hL
    unfold testgatemake_Source_L2 at hr
    refine W_seq ?_
    refine W_sr (WO_seg 2 [(52, .bool (decide (s8.2.2.1 > 0)))] kr kr ?_)
    refine WO_et rfl (W_cond (decide (s8.2.2.1 > 0)) kr ?_ ?_)
    ·intro hc
     rw [if_pos hc] at hr
     refine W_skip ?_
     refine X_then ?_
     refine W_seq ?_
     replace ⟨o6, hr, hrKu6⟩ := bindS hr
     refine W_cut .normal (fun L' w' => ∃ (a16 : Option Addr) (c16 : Nat) (a17 : Option Addr) (c17 : Nat) (m16 : Mem), L' = [(0, .pointer (some ⟨bp0, 0, none⟩)), (5, .string o6.1), (9, .slice a16 (List.length o6.2.1) c16), (10, .int .i64 s8.2.2.1)] ∧ m.le m16 ∧ St m16 (.blk bp0 (.cells #[.slice a17 (List.length o6.2.2.1) c17, .int .i64 o6.2.2.2] 28 (0, 0)) :: .room a16 (List.length o6.2.1) c16 9 1 :: own) w' ∧ RepS cStr m16 a16 c16 o6.2.1 ∧ RepS (cInt .i64) m16 a17 c17 o6.2.2.1) ?_ ?_
     ·clear hr st
      have hr := hrKu6
      clear hrKu6
      rintro _ w16 ⟨a16, c16, a17, c17, m16, rfl, hm, st, r17, r18⟩
      refine X_then ?_
      refine W_region ?_
      refine WO_seg 3 [(10, .int .i64 (IntKind.wrap .i64 (s8.2.2.1 - 1)))] kr kr ?_
      refine WO_end rfl ?_
      obtain rfl := Option.some.inj hr
      have hL := hSu5 _ rfl
      have st := st.front1.front1
      exact X_env _ kr (X_round k2 (Nat.lt_succ_self _) ⟨(o6.1, o6.2.1, IntKind.wrap .i64 (s8.2.2.1 - 1), o6.2.2.1, o6.2.2.2), a16, c16, a17, c17, m16, hL, rfl, hm, st, r17, r18⟩)
     ·intro Ku6
      clear hrKu6
      refine W_block ?_
      refine W_sr (WO_seg 1 [(55, .pointer (some ⟨bp0, 0, none⟩))] kr kr ?_)
      replace ⟨y7, hx14, hr⟩ := bindS hr
      refine WO_one rfl (One_fn 56 61 #[.pointer (some ⟨bp0, 0, none⟩)] kr rfl ?_)
      refine (testgatemake_Decl_ok st r16 hx14).mono ?_
      clear st
      rintro _ w17 ⟨a18, c18, m17, rfl, hle9, st, r19⟩
      refine ⟨_, rfl, ?_⟩
      have hm := Mem.le_trans hm hle9
      have r15 := r15.mono hle9
      have r16 := r16.mono hle9
      refine WO_seg 1 [(11, .string y7.2)] kr kr ?_
      refine WO_et rfl (W_sr ?_)
      refine WO_seg 2 [(12, .string y7.2)] kr kr ?_
      refine WO_et rfl (W_seq ?_)
      refine W_sr (WO_seg 1 [(13, .int .i64 0)] kr kr ?_)
      refine WO_et rfl (W_block ?_)
      replace ⟨out3, hr, hrKu7⟩ := bindS hr
      refine W_cut (.exit 4) (fun L' w' => ∃ (o7 : ByteArray) (m18 : Mem), o7 = out3 ∧ L' = [(0, .pointer (some ⟨bp0, 0, none⟩)), (5, .string s8.1), (9, .slice a14 (List.length s8.2.1) c14), (10, .int .i64 s8.2.2.1), (11, .string y7.2), (12, .string o7)] ∧ m.le m18 ∧ St m18 (.blk bp0 (.cells #[.slice a18 (List.length y7.1.1) c18, .int .i64 y7.1.2] 28 (0, 0)) :: .room a14 (List.length s8.2.1) c14 9 1 :: own) w' ∧ RepS cStr m18 a14 c14 s8.2.1 ∧ RepS (cInt .i64) m18 a18 c18 y7.1.1) ?_ ?_
      ·clear hr st
       rintro _ w18 ⟨o7, m18, rfl, rfl, hm, st, r15, r19⟩
       have hr := hrKu7
       clear hrKu7
       refine X_block_eq ?_
       refine X_then ?_
       refine W_sr ?_
       replace ⟨o9, hr, hrK⟩ := bindS hr
       refine WO_cut (j := 8) (fun L' w' => ∃ (a19 : Option Addr) (c19 : Nat) (m21 : Mem), L' = [(0, .pointer (some ⟨bp0, 0, none⟩)), (5, .string s8.1), (9, .slice a14 (List.length s8.2.1) c14), (10, .int .i64 s8.2.2.1), (11, .string y7.2), (12, .string o7), (84, .bool o9.1)] ∧ m.le m21 ∧ St m21 (.blk bp0 (.cells #[.slice a19 (List.length o9.2.1) c19, .int .i64 o9.2.2] 28 (0, 0)) :: .room a14 (List.length s8.2.1) c14 9 1 :: own) w' ∧ RepS cStr m21 a14 c14 s8.2.1 ∧ RepS (cInt .i64) m21 a19 c19 o9.2.1) ?_ ?_
       ·clear hr st
        have hr := hrK
        clear hrK
        rintro _ w21 ⟨a19, c19, m21, rfl, hm, st, r15, r20⟩
        refine WO_et rfl (W_cond o9.1 kr ?_ ?_)
        ·intro hc
         rw [if_pos hc] at hr
         refine W_sr (WO_seg 2 [(85, .slice a14 (List.length s8.2.1) c14), (86, .string o7)] kr kr ?_)
         refine WO_one rfl (One_buildSlice (d := 87) (t := 33) (e := 9) (len := 1) (parts := #[(0, (.tmp 86))]) cStr (xs := [o7]) [.string o7] kr rfl (fun _ => buildCells_run kr _) rfl rfl st ⟨[.string o7], _, rfl, rfl, rfl⟩ ?_)
         clear st
         intro b2 m24 w24 hle12 st r22
         have hm := Mem.le_trans hm hle12
         have r15 := r15.mono hle12
         have r20 := r20.mono hle12
         have st := st.front2
         replace ⟨l2, hx20, hr⟩ := bindS hr
         refine WO_one rfl (One_append (d := 88) (t := 33) (u := 33) (e := 9) (by_ := 16) (x := (.tmp 85)) (y := (.tmp 87)) cStr kr rfl (ev (.slice a14 (List.length s8.2.1) c14)) (ev (.slice (some ⟨b2, 0, none⟩) (List.length ([o7])) 1)) st kr (.inl kr) r15 r22.src hx20 ?_)
         clear st
         intro a21 c21 m25 w25 hle13 st r23
         have hm := Mem.le_trans hm hle13
         have r15 := r15.mono hle13
         have r22 := r22.mono hle13
         have r20 := r20.mono hle13
         refine WO_seg 1 [(9, .slice a21 (List.length l2) c21)] kr kr ?_
         refine WO_end rfl ?_
         have st := st.front1
         have st := st.tail
         refine X_then ?_
         refine W_region ?_
         refine WO_seg 2 [(89, .string s8.1), (90, .string y7.2)] kr kr ?_
         replace ⟨s11, hx21, hr⟩ := bindS hr
         refine WO_one rfl (One_cat (d := 91) (t := 9) (t2 := 9) (x := (.tmp 89)) (y := (.tmp 90)) kr rfl (ev (.string s8.1)) (ev (.string y7.2)) hx21 ?_)
         refine WO_seg 1 [(5, .string s11)] kr kr ?_
         refine WO_end rfl ?_
         refine X_block ?_
         obtain rfl := Option.some.inj hr
         have st := st.front1
         exact X_env _ kr (Ku6 _ _ ⟨a21, c21, a19, c19, m25, rfl, hm, st, r23, r20⟩)
        ·intro hc
         rw [if_neg (not_true hc)] at hr
         refine W_skip ?_
         refine X_block ?_
         obtain rfl := Option.some.inj hr
         have st := st.front1.front1
         exact X_env _ kr (Ku6 _ _ ⟨a14, c14, a19, c19, m21, rfl, hm, st, r15, r20⟩)
       ·intro K
        clear hrK
        refine WO_seg 2 [(77, .slice a14 (List.length s8.2.1) c14), (78, .string o7)] kr kr ?_
        replace ⟨y8, hx18, hr⟩ := bindS hr
        refine WO_one rfl (One_fn 79 116 #[.slice a14 (List.length s8.2.1) c14, .string o7] kr rfl ?_)
        refine (testgatemake_Has_ok st r15 hx18).mono ?_
        clear st
        rintro _ w22 ⟨m22, rfl, hle10, st⟩
        refine ⟨_, rfl, ?_⟩
        have hm := Mem.le_trans hm hle10
        have r15 := r15.mono hle10
        have r19 := r19.mono hle10
        refine WO_seg 2 [(81, .bool (!y8))] kr kr ?_
        rcases bcases (!y8) with hc | hc
        ·rw [if_pos hc] at hr
         refine WO_fact (t := 81) (b := true) (!y8) kr hc ?_
         refine WO_seg 3 [(84, .bool true)] kr kr ?_
         obtain rfl := Option.some.inj hr
         have st := st.front1.front1
         exact WO_env _ kr (K _ _ ⟨a18, c18, m22, rfl, hm, st, r15, r19⟩)
        ·rw [if_neg (not_true hc)] at hr
         refine WO_fact (t := 81) (b := false) (!y8) kr hc ?_
         refine WO_seg 1 [(82, .pointer (some ⟨bp0, 0, none⟩))] kr kr ?_
         replace ⟨y9, hx19, hr⟩ := bindS hr
         refine WO_one rfl (One_fn 83 29 #[.pointer (some ⟨bp0, 0, none⟩), .int .i64 1, .int .i64 40] kr rfl ?_)
         refine (testgatemake_Tape_Chance_ok st r19 hx19).mono ?_
         clear st
         rintro _ w23 ⟨a20, c20, m23, rfl, hle11, st, r21⟩
         refine ⟨_, rfl, ?_⟩
         have hm := Mem.le_trans hm hle11
         have r15 := r15.mono hle11
         have r19 := r19.mono hle11
         refine WO_seg 1 [(84, .bool y9.2)] kr kr ?_
         obtain rfl := Option.some.inj hr
         have st := st.front1.front1
         exact WO_env _ kr (K _ _ ⟨a20, c20, m23, rfl, hm, st, r15, r21⟩)
      intro K4_u7
      clear hrKu7
      have st := st.front1.front1
      refine W_env _ kr (W_loop (fun k3 L' w' => ∃ (s9 : ByteArray × Int) (m19 : Mem), loopM (testgatemake_Source_L3 N y7) k3 s9 = some out3 ∧ L' = [(0, .pointer (some ⟨bp0, 0, none⟩)), (5, .string s8.1), (9, .slice a14 (List.length s8.2.1) c14), (10, .int .i64 s8.2.2.1), (11, .string y7.2), (12, .string s9.1), (13, .int .i64 s9.2)] ∧ m.le m19 ∧ St m19 (.blk bp0 (.cells #[.slice a18 (List.length y7.1.1) c18, .int .i64 y7.1.2] 28 (0, 0)) :: .room a14 (List.length s8.2.1) c14 9 1 :: own) w' ∧ RepS cStr m19 a14 c14 s8.2.1 ∧ RepS (cInt .i64) m19 a18 c18 y7.1.1) N ⟨(y7.2, 0), m17, hr, rfl, hm, st, r15, r19⟩ ?_)
      clear st hr
      rintro k3 _ w19 ⟨s9, m19, hL, rfl, hm, st, r15, r19⟩
      rcases k3 with _ | k3
      ·exact loopM_zero hL
      ·obtain ⟨qu7, hr, hSu7, hBu7⟩ := loopM_succ hL
       clear hL
       unfold testgatemake_Source_L3 at hr
       refine W_seq ?_
       refine W_sr (WO_seg 4 [(61, .bool (decide (s9.2 < (ByteArray.size y7.2 : Int))))] kr kr ?_)
       refine WO_et rfl (W_cond (decide (s9.2 < (ByteArray.size y7.2 : Int))) kr ?_ ?_)
       ·intro hc
        rw [if_pos hc] at hr
        refine W_skip ?_
        refine X_then ?_
        refine W_seq ?_
        refine W_block ?_
        refine W_sr ?_
        replace ⟨o8, hr, hrK⟩ := bindS hr
        refine WO_cut (j := 10) (fun L' w' => ∃ (m20 : Mem), L' = [(0, .pointer (some ⟨bp0, 0, none⟩)), (5, .string s8.1), (9, .slice a14 (List.length s8.2.1) c14), (10, .int .i64 s8.2.2.1), (11, .string y7.2), (12, .string s9.1), (13, .int .i64 s9.2), (73, .bool o8)] ∧ m.le m20 ∧ St m20 (.blk bp0 (.cells #[.slice a18 (List.length y7.1.1) c18, .int .i64 y7.1.2] 28 (0, 0)) :: .room a14 (List.length s8.2.1) c14 9 1 :: own) w' ∧ RepS cStr m20 a14 c14 s8.2.1 ∧ RepS (cInt .i64) m20 a18 c18 y7.1.1) ?_ ?_
        ·clear hr st
         have hr := hrK
         clear hrK
         rintro _ w20 ⟨m20, rfl, hm, st, r15, r19⟩
         refine WO_et rfl (W_cond o8 kr ?_ ?_)
         ·intro hc
          rw [if_pos hc] at hr
          refine W_sr (WO_seg 2 [(74, .string y7.2), (75, .int .i64 s9.2)] kr kr ?_)
          replace ⟨s10, hx17, hr⟩ := bindS hr
          refine WO_one rfl (One_strSlice (d := 76) (t := 9) (x := (.tmp 74)) (lo := none) (hi := (some (.tmp 75))) kr rfl (ev (.string y7.2)) kr (.inl ⟨rfl, rfl⟩) (.inr ⟨_, _, rfl, (ev (.int .i64 s9.2))⟩) hx17 ?_)
          refine WO_seg 1 [(12, .string s10)] kr kr ?_
          refine WO_et rfl (W_exit ?_)
          refine X_block_ne rfl ?_
          refine X_then_exit ?_
          obtain rfl := Option.some.inj hr
          have ho := hBu7 _ rfl
          have st := st.front1.front1
          refine X_then_exit ?_
          exact X_env _ kr (K4_u7 _ _ ⟨s10, m20, ho, rfl, hm, st, r15, r19⟩)
         ·intro hc
          rw [if_neg (not_true hc)] at hr
          refine W_skip ?_
          refine X_block ?_
          refine X_then ?_
          refine W_region ?_
          refine WO_seg 3 [(13, .int .i64 (IntKind.wrap .i64 (s9.2 + 1)))] kr kr ?_
          refine WO_end rfl ?_
          obtain rfl := Option.some.inj hr
          have hL := hSu7 _ rfl
          have st := st.front1.front1
          exact X_env _ kr (X_round k3 (Nat.lt_succ_self _) ⟨(s9.1, IntKind.wrap .i64 (s9.2 + 1)), m20, hL, rfl, hm, st, r15, r19⟩)
        ·intro K
         clear hrK
         refine WO_seg 2 [(64, .string y7.2), (65, .int .i64 s9.2)] kr kr ?_
         replace ⟨x1, hx15, hr⟩ := bindS hr
         refine WO_one rfl (One_strIndex (d := 66) (t := 9) (x := (.tmp 64)) (y := (.tmp 65)) kr rfl (ev (.string y7.2)) (ev (.int .i64 s9.2)) kr hx15 ?_)
         refine WO_seg 2 [(68, .bool ((x1.toNat : Int) == 40))] kr kr ?_
         rcases bcases ((x1.toNat : Int) == 40) with hc | hc
         ·rw [if_pos hc] at hr
          refine WO_fact (t := 68) (b := true) ((x1.toNat : Int) == 40) kr hc ?_
          refine WO_seg 5 [(73, .bool true)] kr kr ?_
          obtain rfl := Option.some.inj hr
          have st := st.front1.front1
          exact WO_env _ kr (K _ _ ⟨m19, rfl, hm, st, r15, r19⟩)
         ·rw [if_neg (not_true hc)] at hr
          refine WO_fact (t := 68) (b := false) ((x1.toNat : Int) == 40) kr hc ?_
          refine WO_seg 2 [(69, .string y7.2), (70, .int .i64 s9.2)] kr kr ?_
          replace ⟨x2, hx16, hr⟩ := bindS hr
          refine WO_one rfl (One_strIndex (d := 71) (t := 9) (x := (.tmp 69)) (y := (.tmp 70)) kr rfl (ev (.string y7.2)) (ev (.int .i64 s9.2)) kr hx16 ?_)
          refine WO_seg 2 [(73, .bool ((x2.toNat : Int) == 61))] kr kr ?_
          obtain rfl := Option.some.inj hr
          have st := st.front1.front1
          exact WO_env _ kr (K _ _ ⟨m19, rfl, hm, st, r15, r19⟩)
       ·intro hc
        rw [if_neg (not_true hc)] at hr
        refine W_exit ?_
        refine X_then_exit ?_
        obtain rfl := Option.some.inj hr
        have ho := hBu7 _ rfl
        have st := st.front1.front1
        refine X_then_exit ?_
        exact X_env _ kr (K4_u7 _ _ ⟨s9.1, m19, ho, rfl, hm, st, r15, r19⟩)
    ·intro hc
     rw [if_neg (not_true hc)] at hr
     refine W_exit ?_
     refine X_then_exit ?_
     obtain rfl := Option.some.inj hr
     have ho := hBu5 _ rfl
     have st := st.front1
     have st := st.tail
     refine X_then_exit ?_
     exact X_env _ kr (K2_u5 _ _ ⟨(s8.1, s8.2.2.2.1, s8.2.2.2.2), a15, c15, m15, ho, rfl, hm, st, r16⟩)
  intro K0_u2
  clear hrKu2
  have st := st.nilroom 9 1
  have st := st.front1
  refine W_env _ kr (W_loop (fun k1 L' w' => ∃ (s4 : ByteArray × List (ByteArray) × Int × List (Int) × Int) (a5 : Option Addr) (c5 : Nat) (a6 : Option Addr) (c6 : Nat) (m5 : Mem), loopM (testgatemake_Source_L1 N p1) k1 s4 = some out1 ∧ L' = [(0, .pointer (some ⟨bp0, 0, none⟩)), (1, .string p1), (5, .string s4.1), (6, .slice a5 (List.length s4.2.1) c5), (7, .int .i64 s4.2.2.1)] ∧ m.le m5 ∧ St m5 (.blk bp0 (.cells #[.slice a6 (List.length s4.2.2.2.1) c6, .int .i64 s4.2.2.2.2] 28 (0, 0)) :: .room a5 (List.length s4.2.1) c5 9 1 :: own) w' ∧ RepS cStr m5 a5 c5 s4.2.1 ∧ RepS (cInt .i64) m5 a6 c6 s4.2.2.2.1) N ⟨(o1, ([] : List (ByteArray)), y2.2, y2.1.1, y2.1.2), none, 0, a3, c3, m3, hr, rfl, hm, st, (RepS.nil _ _), r3⟩ ?_)
  clear st hr
  rintro k1 _ w5 ⟨s4, a5, c5, a6, c6, m5, hL, rfl, hm, st, r5, r6⟩
  rcases k1 with _ | k1
  ·exact loopM_zero hL
  ·obtain ⟨qu2, hr, hSu2, hBu2⟩ := loopM_succ hL
   clear hL
   unfold testgatemake_Source_L1 at hr
   refine W_seq ?_
   refine W_sr (WO_seg 2 [(24, .bool (decide (s4.2.2.1 > 0)))] kr kr ?_)
   refine WO_et rfl (W_cond (decide (s4.2.2.1 > 0)) kr ?_ ?_)
   ·intro hc
    rw [if_pos hc] at hr
    refine W_skip ?_
    refine X_then ?_
    refine W_seq ?_
    replace ⟨o3, hr, hrKu3⟩ := bindS hr
    refine W_cut .normal (fun L' w' => ∃ (a7 : Option Addr) (c7 : Nat) (a8 : Option Addr) (c8 : Nat) (m6 : Mem), L' = [(0, .pointer (some ⟨bp0, 0, none⟩)), (1, .string p1), (5, .string o3.1), (6, .slice a7 (List.length o3.2.1) c7), (7, .int .i64 s4.2.2.1)] ∧ m.le m6 ∧ St m6 (.blk bp0 (.cells #[.slice a8 (List.length o3.2.2.1) c8, .int .i64 o3.2.2.2] 28 (0, 0)) :: .room a7 (List.length o3.2.1) c7 9 1 :: own) w' ∧ RepS cStr m6 a7 c7 o3.2.1 ∧ RepS (cInt .i64) m6 a8 c8 o3.2.2.1) ?_ ?_
    ·clear hr st
     have hr := hrKu3
     clear hrKu3
     rintro _ w6 ⟨a7, c7, a8, c8, m6, rfl, hm, st, r7, r8⟩
     refine X_then ?_
     refine W_region ?_
     refine WO_seg 3 [(7, .int .i64 (IntKind.wrap .i64 (s4.2.2.1 - 1)))] kr kr ?_
     refine WO_end rfl ?_
     obtain rfl := Option.some.inj hr
     have hL := hSu2 _ rfl
     have st := st.front1.front1
     exact X_env _ kr (X_round k1 (Nat.lt_succ_self _) ⟨(o3.1, o3.2.1, IntKind.wrap .i64 (s4.2.2.1 - 1), o3.2.2.1, o3.2.2.2), a7, c7, a8, c8, m6, hL, rfl, hm, st, r7, r8⟩)
    ·intro Ku3
     clear hrKu3
     refine W_block ?_
     refine W_sr (WO_seg 1 [(27, .pointer (some ⟨bp0, 0, none⟩))] kr kr ?_)
     replace ⟨y3, hx6, hr⟩ := bindS hr
     refine WO_one rfl (One_fn 28 59 #[] kr rfl ?_)
     refine (testgatemake_Packages_ok st hx6).mono ?_
     clear st
     rintro _ w7 ⟨a9, c9, m7, rfl, hle3, st, r9⟩
     refine ⟨_, rfl, ?_⟩
     have hm := Mem.le_trans hm hle3
     have r5 := r5.mono hle3
     have r6 := r6.mono hle3
     have st := st.front1
     replace ⟨y4, hx7, hr⟩ := bindS hr
     refine WO_one rfl (One_fn 29 13 #[.pointer (some ⟨bp0, 0, none⟩), .slice a9 (List.length y3) c9] kr rfl ?_)
     refine (testgatemake_Tape_One_ok st r6 r9 hx7).mono ?_
     clear st
     rintro _ w8 ⟨a10, c10, m8, rfl, hle4, st, r10⟩
     refine ⟨_, rfl, ?_⟩
     have hm := Mem.le_trans hm hle4
     have r5 := r5.mono hle4
     have r9 := r9.mono hle4
     have r6 := r6.mono hle4
     refine WO_seg 1 [(8, .string y4.2)] kr kr ?_
     refine WO_end rfl ?_
     have st := st.front1
     have st := st.tail
     refine X_then ?_
     refine W_sr ?_
     replace ⟨o4, hr, hrK⟩ := bindS hr
     refine WO_cut (j := 9) (fun L' w' => ∃ (m9 : Mem), L' = [(0, .pointer (some ⟨bp0, 0, none⟩)), (1, .string p1), (5, .string s4.1), (6, .slice a5 (List.length s4.2.1) c5), (7, .int .i64 s4.2.2.1), (8, .string y4.2), (38, .bool o4)] ∧ m.le m9 ∧ St m9 (.blk bp0 (.cells #[.slice a10 (List.length y4.1.1) c10, .int .i64 y4.1.2] 28 (0, 0)) :: .room a5 (List.length s4.2.1) c5 9 1 :: own) w' ∧ RepS cStr m9 a5 c5 s4.2.1 ∧ RepS (cInt .i64) m9 a10 c10 y4.1.1) ?_ ?_
     ·clear hr st
      have hr := hrK
      clear hrK
      rintro _ w9 ⟨m9, rfl, hm, st, r5, r10⟩
      refine WO_et rfl (W_cond o4 kr ?_ ?_)
      ·intro hc
       rw [if_pos hc] at hr
       refine W_sr (WO_seg 2 [(39, .slice a5 (List.length s4.2.1) c5), (40, .string y4.2)] kr kr ?_)
       refine WO_one rfl (One_buildSlice (d := 41) (t := 33) (e := 9) (len := 1) (parts := #[(0, (.tmp 40))]) cStr (xs := [y4.2]) [.string y4.2] kr rfl (fun _ => buildCells_run kr _) rfl rfl st ⟨[.string y4.2], _, rfl, rfl, rfl⟩ ?_)
       clear st
       intro b1 m11 w11 hle6 st r11
       have hm := Mem.le_trans hm hle6
       have r5 := r5.mono hle6
       have r10 := r10.mono hle6
       have st := st.front2
       replace ⟨l1, hx9, hr⟩ := bindS hr
       refine WO_one rfl (One_append (d := 42) (t := 33) (u := 33) (e := 9) (by_ := 16) (x := (.tmp 39)) (y := (.tmp 41)) cStr kr rfl (ev (.slice a5 (List.length s4.2.1) c5)) (ev (.slice (some ⟨b1, 0, none⟩) (List.length ([y4.2])) 1)) st kr (.inl kr) r5 r11.src hx9 ?_)
       clear st
       intro a11 c11 m12 w12 hle7 st r12
       have hm := Mem.le_trans hm hle7
       have r5 := r5.mono hle7
       have r11 := r11.mono hle7
       have r10 := r10.mono hle7
       refine WO_seg 1 [(6, .slice a11 (List.length l1) c11)] kr kr ?_
       refine WO_end rfl ?_
       have st := st.front1
       have st := st.tail
       refine X_then ?_
       refine W_region ?_
       refine WO_seg 2 [(43, .string s4.1), (44, .string y4.2)] kr kr ?_
       replace ⟨s5, hx10, hr⟩ := bindS hr
       refine WO_one rfl (One_cat (d := 45) (t := 9) (t2 := 9) (x := (.const (.string (⟨#[105, 109, 112, 111, 114, 116, 32]⟩ : ByteArray)))) (y := (.tmp 44)) kr rfl (ev (.string (⟨#[105, 109, 112, 111, 114, 116, 32]⟩ : ByteArray))) (ev (.string y4.2)) hx10 ?_)
       replace ⟨s6, hx11, hr⟩ := bindS hr
       refine WO_one rfl (One_cat (d := 46) (t := 9) (t2 := 9) (x := (.tmp 45)) (y := (.const (.string (⟨#[59, 10]⟩ : ByteArray)))) kr rfl (ev (.string s5)) (ev (.string (⟨#[59, 10]⟩ : ByteArray))) hx11 ?_)
       replace ⟨s7, hx12, hr⟩ := bindS hr
       refine WO_one rfl (One_cat (d := 47) (t := 9) (t2 := 9) (x := (.tmp 43)) (y := (.tmp 46)) kr rfl (ev (.string s4.1)) (ev (.string s6)) hx12 ?_)
       refine WO_seg 1 [(5, .string s7)] kr kr ?_
       refine WO_end rfl ?_
       refine X_block ?_
       obtain rfl := Option.some.inj hr
       have st := st.front1
       exact X_env _ kr (Ku3 _ _ ⟨a11, c11, a10, c10, m12, rfl, hm, st, r12, r10⟩)
      ·intro hc
       rw [if_neg (not_true hc)] at hr
       refine W_skip ?_
       refine X_block ?_
       obtain rfl := Option.some.inj hr
       have st := st.front1.front1
       exact X_env _ kr (Ku3 _ _ ⟨a5, c5, a10, c10, m9, rfl, hm, st, r5, r10⟩)
     ·intro K
      clear hrK
      refine WO_seg 4 [(33, .bool (!(y4.2.toList == p1.toList)))] kr kr ?_
      rcases bcases (!(y4.2.toList == p1.toList)) with hc | hc
      ·rw [if_pos hc] at hr
       refine WO_fact (t := 33) (b := true) (!(y4.2.toList == p1.toList)) kr hc ?_
       refine WO_seg 2 [(34, .slice a5 (List.length s4.2.1) c5), (35, .string y4.2)] kr kr ?_
       replace ⟨y5, hx8, hr⟩ := bindS hr
       refine WO_one rfl (One_fn 36 116 #[.slice a5 (List.length s4.2.1) c5, .string y4.2] kr rfl ?_)
       refine (testgatemake_Has_ok st r5 hx8).mono ?_
       clear st
       rintro _ w10 ⟨m10, rfl, hle5, st⟩
       refine ⟨_, rfl, ?_⟩
       have hm := Mem.le_trans hm hle5
       have r5 := r5.mono hle5
       have r10 := r10.mono hle5
       refine WO_seg 2 [(38, .bool (!y5))] kr kr ?_
       obtain rfl := Option.some.inj hr
       have st := st.front1.front1
       exact WO_env _ kr (K _ _ ⟨m10, rfl, hm, st, r5, r10⟩)
      ·rw [if_neg (not_true hc)] at hr
       refine WO_fact (t := 33) (b := false) (!(y4.2.toList == p1.toList)) kr hc ?_
       refine WO_seg 5 [(38, .bool false)] kr kr ?_
       obtain rfl := Option.some.inj hr
       have st := st.front1.front1
       exact WO_env _ kr (K _ _ ⟨m8, rfl, hm, st, r5, r10⟩)
   ·intro hc
    rw [if_neg (not_true hc)] at hr
    refine W_exit ?_
    refine X_then_exit ?_
    obtain rfl := Option.some.inj hr
    have ho := hBu2 _ rfl
    have st := st.front1
    have st := st.tail
    refine X_then_exit ?_
    exact X_env _ kr (K0_u2 _ _ ⟨(s4.1, s4.2.2.2.1, s4.2.2.2.2), a6, c6, m5, ho, rfl, hm, st, r6⟩)
 ·intro Ku1
  clear hrKu1
  refine W_cond y1.2 kr ?_ ?_
  ·intro hc
   rw [if_pos hc] at hr
   refine W_region ?_
   refine WO_seg 1 [(19, .string s2)] kr kr ?_
   replace ⟨s3, hx4, hr⟩ := bindS hr
   refine WO_one rfl (One_cat (d := 20) (t := 9) (t2 := 9) (x := (.const (.string (⟨#[35, 32, 97, 32, 99, 111, 109, 109, 101, 110, 116, 10]⟩ : ByteArray)))) (y := (.tmp 19)) kr rfl (ev (.string (⟨#[35, 32, 97, 32, 99, 111, 109, 109, 101, 110, 116, 10]⟩ : ByteArray))) (ev (.string s2)) hx4 ?_)
   refine WO_seg 1 [(5, .string s3)] kr kr ?_
   refine WO_end rfl ?_
   obtain rfl := Option.some.inj hr
   exact X_env _ kr (Ku1 _ _ ⟨m1, rfl, hm, st, r2⟩)
  ·intro hc
   rw [if_neg (not_true hc)] at hr
   refine W_skip ?_
   obtain rfl := Option.some.inj hr
   exact X_env _ kr (Ku1 _ _ ⟨m1, rfl, hm, st, r2⟩)
def testgatemake_insert_L1 (N : Nat) (p0 : (List (ByteArray × ByteArray))) (p1 : ByteArray × ByteArray) (s1 : Bool × Int × (List (ByteArray × ByteArray))) : Option ((Bool × Int × (List (ByteArray × ByteArray))) ⊕ ((Bool × (List (ByteArray × ByteArray))))) :=
 if (decide (s1.2.1 < (List.length p0 : Int))) = true then (((idx p0 s1.2.1).bind fun x1 => (if (!s1.1) = true then (some (Op.bytesLess p1.1.toList x1.1.toList || (p1.1.toList == x1.1.toList))) else (some false) : Option (Bool)).bind fun o3 => (if o3 = true then ((appendS 32 s1.2.2 ([(p1.1, p1.2)])).bind fun l1 => some (true, l1)) else (some (s1.1, s1.2.2)) : Option (Bool × (List (ByteArray × ByteArray)))).bind fun o4 => if (!(x1.1.toList == p1.1.toList)) = true then ((appendS 32 o4.2 ([(x1.1, x1.2)])).bind fun l2 => some (o4.1, l2)) else (some (o4.1, o4.2)) : Option (Bool × (List (ByteArray × ByteArray)))).bind fun o2 => some (.inl (o2.1, IntKind.wrap .i64 (s1.2.1 + 1), o2.2))) else (some (.inr (s1.1, s1.2.2)))
def testgatemake_insert (N : Nat) (p0 : (List (ByteArray × ByteArray))) (p1 : ByteArray × ByteArray) : Option ((List (ByteArray × ByteArray))) :=
 (loopM (testgatemake_insert_L1 N p0 p1) N (false, 0, ([] : List (ByteArray × ByteArray)))).bind fun o1 => (if (!o1.1) = true then ((appendS 32 o1.2 ([(p1.1, p1.2)])).bind fun l3 => some l3) else (some o1.2) : Option ((List (ByteArray × ByteArray)))).bind fun o5 => some o5
set_option maxHeartbeats 4000000 in
set_option maxRecDepth 100000 in
theorem testgatemake_insert_ok {N : Nat} {m : Mem} {own : List Piece} {w : World} {p0 : (List (ByteArray × ByteArray))} {p1 : ByteArray × ByteArray} {a1 : Option Addr} {c1 : Nat} {r : (List (ByteArray × ByteArray))} (st : St m (own) w) (r1 : RepS (cPair cStr cStr) m a1 c1 p0) (hr : testgatemake_insert N p0 p1 = some r) : Calls Tryz.prog 55 #[.agg #[.slice a1 (List.length p0) c1], .agg #[.string p1.1, .string p1.2]] w fun e w' => ∃ (ra1 : Option Addr) (rc1 : Nat) (m' : Mem), e = .returned (.agg #[.slice ra1 (List.length r) rc1]) ∧ m.le m' ∧ St m' (.room ra1 (List.length r) rc1 74 2 :: own) w' ∧ RepS (cPair cStr cStr) m' ra1 rc1 r := by
 unfold testgatemake_insert at hr
 have hm := m.le_refl
 refine W_calls Tryz.func55 rfl Tryz.ntmps55 [(0, .agg #[.slice a1 (List.length p0) c1]), (1, .agg #[.string p1.1, .string p1.2])] kr rfl ?_
 refine W_sr (WO_one rfl (One_box (d := 2) (e := 25) (x := (.tmp 0)) (.agg #[.slice a1 (List.length p0) c1]) kr rfl kr st ?_))
 clear st
 intro b1 m1 w1 hle1 st hb1
 have hm := Mem.le_trans hm hle1
 have r1 := r1.mono hle1
 refine WO_one rfl (One_box (d := 3) (e := 74) (x := (.tmp 1)) (.agg #[.string p1.1, .string p1.2]) kr rfl kr st ?_)
 clear st
 intro b2 m2 w2 hle2 st hb2
 have hm := Mem.le_trans hm hle2
 have r1 := r1.mono hle2
 have hb1 := hb1.mono hle2
 refine WO_one rfl (One_alloc (d := 4) (e := 25) (.agg #[.slice none 0 0]) kr rfl kr st ?_)
 clear st
 intro b3 w3 st
 refine WO_et rfl (W_sr ?_)
 refine WO_one rfl (One_alloc (d := 5) (e := 25) (.agg #[.slice none 0 0]) kr rfl kr st ?_)
 clear st
 intro b4 w4 st
 refine WO_et rfl (W_sr ?_)
 refine WO_seg 1 [(6, .bool false)] kr kr ?_
 refine WO_et rfl (W_seq ?_)
 refine W_sr (WO_seg 1 [(9, .pointer (some ⟨b1, 0, none⟩))] kr kr ?_)
 refine WO_one rfl (One_load_row (d := 10) (t := 23) (x := (.tmp 9)) (.slice a1 (List.length p0) c1) kr rfl (ev (.pointer (some ⟨b1, 0, none⟩))) st hb1 kr ?_)
 refine WO_seg 2 [(11, .int .i64 (List.length p0 : Int)), (12, .int .i64 0)] kr kr ?_
 refine WO_et rfl (W_block ?_)
 replace ⟨out1, hr, hrKu1⟩ := bindS hr
 refine W_cut (.exit 0) (fun L' w' => ∃ (o1 : Bool × (List (ByteArray × ByteArray))) (a2 : Option Addr) (c2 : Nat) (m3 : Mem), o1 = out1 ∧ L' = [(3, .pointer (some ⟨b2, 0, none⟩)), (4, .pointer (some ⟨b3, 0, none⟩)), (5, .pointer (some ⟨b4, 0, none⟩)), (6, .bool o1.1)] ∧ m.le m3 ∧ St m3 (.blk b4 (.cells #[.slice a2 (List.length o1.2) c2] 25 (0, 0)) :: .blk b3 (.cells #[.slice none (List.length ([] : List (ByteArray × ByteArray))) 0] 25 (0, 0)) :: .room a2 (List.length o1.2) c2 74 2 :: own) w' ∧ MRow m3 b2 0 [.string p1.1, .string p1.2] ∧ RepS (cPair cStr cStr) m3 a2 c2 o1.2) ?_ ?_
 ·clear hr st
  rintro _ w5 ⟨o1, a2, c2, m3, rfl, rfl, hm, st, hb2, r2⟩
  have hr := hrKu1
  clear hrKu1
  refine X_block_eq ?_
  refine X_then ?_
  refine W_seq ?_
  refine W_sr (WO_seg 2 [(44, .bool (!o1.1))] kr kr ?_)
  refine WO_et rfl ?_
  replace ⟨o5, hr, hrKu5⟩ := bindS hr
  refine W_cut .normal (fun L' w' => ∃ (a8 : Option Addr) (c8 : Nat) (m12 : Mem), L' = [(4, .pointer (some ⟨b3, 0, none⟩)), (5, .pointer (some ⟨b4, 0, none⟩))] ∧ m.le m12 ∧ St m12 (.blk b4 (.cells #[.slice a8 (List.length o5) c8] 25 (0, 0)) :: .blk b3 (.cells #[.slice none (List.length ([] : List (ByteArray × ByteArray))) 0] 25 (0, 0)) :: .room a8 (List.length o5) c8 74 2 :: own) w' ∧ RepS (cPair cStr cStr) m12 a8 c8 o5) ?_ ?_
  ·clear hr st
   have hr := hrKu5
   clear hrKu5
   rintro _ w18 ⟨a8, c8, m12, rfl, hm, st, r10⟩
   refine X_then ?_
   refine W_sr (WO_one rfl (One_load_own (d := 51) (t := 25) (x := (.tmp 5)) (.agg #[.slice a8 (List.length o5) c8]) kr rfl (ev (.pointer (some ⟨b4, 0, none⟩))) st.head kr ?_))
   have st := st.front1
   refine WO_one rfl (One_store (t := 25) (x := (.tmp 4)) (y := (.tmp 51)) (v := .agg #[.slice a8 (List.length o5) c8]) (c' := #[.slice a8 (List.length o5) c8]) kr (ev (.pointer (some ⟨b3, 0, none⟩))) (ev (.agg #[.slice a8 (List.length o5) c8])) st kr kr ?_)
   clear st
   intro w22 st
   refine WO_et rfl (W_ret ?_)
   obtain rfl := Option.some.inj hr
   refine X_ret [.cell 4 25] [.agg #[.slice a8 (List.length o5) c8]] rfl (ResAll.cons (ResAt.blk (v := .agg #[.slice a8 (List.length o5) c8]) (o := 0) kr st.head kr) ResAll.nil) ?_
   have st := st.tail
   have st := st.tail
   exact ⟨a8, c8, m12, rfl, hm, st, r10⟩
  ·intro Ku5
   clear hrKu5
   refine W_cond (!o1.1) kr ?_ ?_
   ·intro hc
    rw [if_pos hc] at hr
    refine W_region ?_
    refine WO_seg 1 [(45, .pointer (some ⟨b4, 0, none⟩))] kr kr ?_
    refine WO_one rfl (One_load_own (d := 46) (t := 23) (x := (.tmp 45)) (.slice a2 (List.length o1.2) c2) kr rfl (ev (.pointer (some ⟨b4, 0, none⟩))) st.head kr ?_)
    refine WO_one rfl (One_load_row (d := 47) (t := 74) (x := (.tmp 3)) (.agg #[.string p1.1, .string p1.2]) kr rfl (ev (.pointer (some ⟨b2, 0, none⟩))) st hb2 kr ?_)
    refine WO_one rfl (One_buildSlice (d := 48) (t := 23) (e := 74) (len := 1) (parts := #[(0, (.tmp 47))]) (cPair cStr cStr) (xs := [(p1.1, p1.2)]) [.string p1.1, .string p1.2] kr rfl (fun _ => buildCells_run kr _) rfl rfl st ⟨[.string p1.1, .string p1.2], _, rfl, ⟨_, _, rfl, rfl, rfl⟩, rfl⟩ ?_)
    clear st
    intro b9 m13 w19 hle7 st r11
    have hm := Mem.le_trans hm hle7
    have hb2 := hb2.mono hle7
    have r2 := r2.mono hle7
    have st := st.front3
    replace ⟨l3, hx4, hr⟩ := bindS hr
    refine WO_one rfl (One_append (d := 49) (t := 23) (u := 23) (e := 74) (by_ := 32) (x := (.tmp 46)) (y := (.tmp 48)) (cPair cStr cStr) kr rfl (ev (.slice a2 (List.length o1.2) c2)) (ev (.slice (some ⟨b9, 0, none⟩) (List.length ([(p1.1, p1.2)])) 1)) st kr (.inl kr) r2 r11.src hx4 ?_)
    clear st
    intro a9 c9 m14 w20 hle8 st r12
    have hm := Mem.le_trans hm hle8
    have hb2 := hb2.mono hle8
    have r2 := r2.mono hle8
    have r11 := r11.mono hle8
    refine WO_seg 1 [(50, .pointer (some ⟨b4, 0, none⟩))] kr kr ?_
    have st := st.front2
    refine WO_one rfl (One_store (t := 23) (x := (.tmp 50)) (y := (.tmp 49)) (v := .slice a9 (List.length l3) c9) (c' := #[.slice a9 (List.length l3) c9]) kr (ev (.pointer (some ⟨b4, 0, none⟩))) (ev (.slice a9 (List.length l3) c9)) st kr kr ?_)
    clear st
    intro w21 st
    refine WO_end rfl ?_
    have st := st.front2
    have st := st.tail
    obtain rfl := Option.some.inj hr
    have st := st.front1.front2.front2
    exact X_env _ kr (Ku5 _ _ ⟨a9, c9, m14, rfl, hm, st, r12⟩)
   ·intro hc
    rw [if_neg (not_true hc)] at hr
    refine W_skip ?_
    obtain rfl := Option.some.inj hr
    have st := st.front2.front2.front2
    exact X_env _ kr (Ku5 _ _ ⟨a2, c2, m3, rfl, hm, st, r2⟩)
 intro K0_u1
 clear hrKu1
 have st := st.nilroom 74 2
 have st := st.front2.front2
 refine W_env _ kr (W_loop (fun k1 L' w' => ∃ (s1 : Bool × Int × (List (ByteArray × ByteArray))) (a3 : Option Addr) (c3 : Nat) (m4 : Mem), loopM (testgatemake_insert_L1 N p0 p1) k1 s1 = some out1 ∧ L' = [(3, .pointer (some ⟨b2, 0, none⟩)), (4, .pointer (some ⟨b3, 0, none⟩)), (5, .pointer (some ⟨b4, 0, none⟩)), (6, .bool s1.1), (10, .slice a1 (List.length p0) c1), (11, .int .i64 (List.length p0 : Int)), (12, .int .i64 s1.2.1)] ∧ m.le m4 ∧ St m4 (.blk b4 (.cells #[.slice a3 (List.length s1.2.2) c3] 25 (0, 0)) :: .blk b3 (.cells #[.slice none (List.length ([] : List (ByteArray × ByteArray))) 0] 25 (0, 0)) :: .room a3 (List.length s1.2.2) c3 74 2 :: own) w' ∧ MRow m4 b2 0 [.string p1.1, .string p1.2] ∧ RepS (cPair cStr cStr) m4 a1 c1 p0 ∧ RepS (cPair cStr cStr) m4 a3 c3 s1.2.2) N ⟨(false, 0, ([] : List (ByteArray × ByteArray))), none, 0, m2, hr, rfl, hm, st, hb2, r1, (RepS.nil _ _)⟩ ?_)
 clear st hr
 rintro k1 _ w6 ⟨s1, a3, c3, m4, hL, rfl, hm, st, hb2, r1, r3⟩
 rcases k1 with _ | k1
 ·exact loopM_zero hL
 ·obtain ⟨qu1, hr, hSu1, hBu1⟩ := loopM_succ hL
  clear hL
  unfold testgatemake_insert_L1 at hr
  refine W_sr (WO_seg 1 [(13, .bool (decide (s1.2.1 < (List.length p0 : Int))))] kr kr ?_)
  refine WO_et rfl (W_seq ?_)
  refine W_cond (decide (s1.2.1 < (List.length p0 : Int))) kr ?_ ?_
  ·intro hc
   rw [if_pos hc] at hr
   refine W_skip ?_
   refine X_then ?_
   refine W_seq ?_
   replace ⟨o2, hr, hrKu2⟩ := bindS hr
   refine W_cut .normal (fun L' w' => ∃ (a4 : Option Addr) (c4 : Nat) (m5 : Mem), L' = [(3, .pointer (some ⟨b2, 0, none⟩)), (4, .pointer (some ⟨b3, 0, none⟩)), (5, .pointer (some ⟨b4, 0, none⟩)), (6, .bool o2.1), (10, .slice a1 (List.length p0) c1), (11, .int .i64 (List.length p0 : Int)), (12, .int .i64 s1.2.1)] ∧ m.le m5 ∧ St m5 (.blk b4 (.cells #[.slice a4 (List.length o2.2) c4] 25 (0, 0)) :: .blk b3 (.cells #[.slice none (List.length ([] : List (ByteArray × ByteArray))) 0] 25 (0, 0)) :: .room a4 (List.length o2.2) c4 74 2 :: own) w' ∧ MRow m5 b2 0 [.string p1.1, .string p1.2] ∧ RepS (cPair cStr cStr) m5 a1 c1 p0 ∧ RepS (cPair cStr cStr) m5 a4 c4 o2.2) ?_ ?_
   ·clear hr st
    have hr := hrKu2
    clear hrKu2
    rintro _ w7 ⟨a4, c4, m5, rfl, hm, st, hb2, r1, r4⟩
    refine X_then ?_
    refine W_region ?_
    refine WO_seg 2 [(12, .int .i64 (IntKind.wrap .i64 (s1.2.1 + 1)))] kr kr ?_
    refine WO_end rfl ?_
    obtain rfl := Option.some.inj hr
    have hL := hSu1 _ rfl
    have st := st.front2.front2.front2
    exact X_env _ kr (X_round k1 (Nat.lt_succ_self _) ⟨(o2.1, IntKind.wrap .i64 (s1.2.1 + 1), o2.2), a4, c4, m5, hL, rfl, hm, st, hb2, r1, r4⟩)
   ·intro Ku2
    clear hrKu2
    refine W_block ?_
    refine W_sr ?_
    replace ⟨x1, hx1, hr⟩ := bindS hr
    refine WO_one rfl (One_index (d := 14) (t := 23) (e := 74) (x := (.tmp 10)) (y := (.tmp 12)) (cPair cStr cStr) kr rfl (ev (.slice a1 (List.length p0) c1)) (ev (.int .i64 s1.2.1)) kr r1 hx1 ?_)
    rintro b5 f1 cs1 ⟨_, _, rfl, rfl, rfl⟩ hq1
    refine WO_one rfl (One_load_row (d := 15) (t := 74) (x := (.tmp 14)) (.agg #[.string x1.1, .string x1.2]) kr rfl (ev (.pointer (some ⟨b5, f1, none⟩))) st hq1 kr ?_)
    refine WO_one rfl (One_alloc (d := 8) (e := 74) (.agg #[.string (⟨#[]⟩ : ByteArray), .string (⟨#[]⟩ : ByteArray)]) kr rfl kr st ?_)
    clear st
    intro b6 w8 st
    refine WO_one rfl (One_store (t := 74) (x := (.tmp 8)) (y := (.tmp 15)) (v := .agg #[.string x1.1, .string x1.2]) (c' := #[.string x1.1, .string x1.2]) kr (ev (.pointer (some ⟨b6, 0, none⟩))) (ev (.agg #[.string x1.1, .string x1.2])) st kr kr ?_)
    clear st
    intro w9 st
    refine WO_et rfl (W_seq ?_)
    refine W_sr ?_
    replace ⟨o3, hr, hrK⟩ := bindS hr
    refine WO_cut (j := 9) (fun L' w' => ∃ (m6 : Mem), L' = [(3, .pointer (some ⟨b2, 0, none⟩)), (4, .pointer (some ⟨b3, 0, none⟩)), (5, .pointer (some ⟨b4, 0, none⟩)), (6, .bool s1.1), (8, .pointer (some ⟨b6, 0, none⟩)), (10, .slice a1 (List.length p0) c1), (11, .int .i64 (List.length p0 : Int)), (12, .int .i64 s1.2.1), (24, .bool o3)] ∧ m.le m6 ∧ St m6 (.blk b6 (.cells #[.string x1.1, .string x1.2] 74 (0, 0)) :: .blk b4 (.cells #[.slice a3 (List.length s1.2.2) c3] 25 (0, 0)) :: .blk b3 (.cells #[.slice none (List.length ([] : List (ByteArray × ByteArray))) 0] 25 (0, 0)) :: .room a3 (List.length s1.2.2) c3 74 2 :: own) w' ∧ MRow m6 b2 0 [.string p1.1, .string p1.2] ∧ RepS (cPair cStr cStr) m6 a1 c1 p0 ∧ RepS (cPair cStr cStr) m6 a3 c3 s1.2.2) ?_ ?_
    ·clear hr st
     have hr := hrK
     clear hrK
     rintro _ w10 ⟨m6, rfl, hm, st, hb2, r1, r3⟩
     refine WO_et rfl ?_
     replace ⟨o4, hr, hrKu3⟩ := bindS hr
     refine W_cut .normal (fun L' w' => ∃ (a5 : Option Addr) (c5 : Nat) (m7 : Mem), L' = [(3, .pointer (some ⟨b2, 0, none⟩)), (4, .pointer (some ⟨b3, 0, none⟩)), (5, .pointer (some ⟨b4, 0, none⟩)), (6, .bool o4.1), (8, .pointer (some ⟨b6, 0, none⟩)), (10, .slice a1 (List.length p0) c1), (11, .int .i64 (List.length p0 : Int)), (12, .int .i64 s1.2.1)] ∧ m.le m7 ∧ St m7 (.blk b6 (.cells #[.string x1.1, .string x1.2] 74 (0, 0)) :: .blk b4 (.cells #[.slice a5 (List.length o4.2) c5] 25 (0, 0)) :: .blk b3 (.cells #[.slice none (List.length ([] : List (ByteArray × ByteArray))) 0] 25 (0, 0)) :: .room a5 (List.length o4.2) c5 74 2 :: own) w' ∧ MRow m7 b2 0 [.string p1.1, .string p1.2] ∧ RepS (cPair cStr cStr) m7 a1 c1 p0 ∧ RepS (cPair cStr cStr) m7 a5 c5 o4.2) ?_ ?_
     ·clear hr st
      have hr := hrKu3
      clear hrKu3
      rintro _ w11 ⟨a5, c5, m7, rfl, hm, st, hb2, r1, r5⟩
      refine X_then ?_
      refine W_sr (WO_seg 1 [(31, .pointer (some ⟨b6, 0, none⟩))] kr kr ?_)
      refine WO_one rfl (One_load_own (d := 32) (t := 9) (x := (.tmp 31)) (.string x1.1) kr rfl (ev (.pointer (some ⟨b6, 0, none⟩))) st.head kr ?_)
      refine WO_seg 1 [(33, .pointer (some ⟨b2, 0, none⟩))] kr kr ?_
      refine WO_one rfl (One_load_row (d := 34) (t := 9) (x := (.tmp 33)) (.string p1.1) kr rfl (ev (.pointer (some ⟨b2, 0, none⟩))) st hb2 kr ?_)
      refine WO_seg 1 [(35, .bool (!(x1.1.toList == p1.1.toList)))] kr kr ?_
      refine WO_et rfl (W_cond (!(x1.1.toList == p1.1.toList)) kr ?_ ?_)
      ·intro hc
       rw [if_pos hc] at hr
       refine W_region ?_
       refine WO_seg 1 [(36, .pointer (some ⟨b4, 0, none⟩))] kr kr ?_
       refine WO_one rfl (One_load_own (d := 37) (t := 23) (x := (.tmp 36)) (.slice a5 (List.length o4.2) c5) kr rfl (ev (.pointer (some ⟨b4, 0, none⟩))) st.tail.head kr ?_)
       refine WO_one rfl (One_load_own (d := 38) (t := 74) (x := (.tmp 8)) (.agg #[.string x1.1, .string x1.2]) kr rfl (ev (.pointer (some ⟨b6, 0, none⟩))) st.head kr ?_)
       refine WO_one rfl (One_buildSlice (d := 39) (t := 23) (e := 74) (len := 1) (parts := #[(0, (.tmp 38))]) (cPair cStr cStr) (xs := [(x1.1, x1.2)]) [.string x1.1, .string x1.2] kr rfl (fun _ => buildCells_run kr _) rfl rfl st ⟨[.string x1.1, .string x1.2], _, rfl, ⟨_, _, rfl, rfl, rfl⟩, rfl⟩ ?_)
       clear st
       intro b8 m10 w15 hle5 st r8
       have hm := Mem.le_trans hm hle5
       have hb2 := hb2.mono hle5
       have r1 := r1.mono hle5
       have r5 := r5.mono hle5
       have st := st.front4
       replace ⟨l2, hx3, hr⟩ := bindS hr
       refine WO_one rfl (One_append (d := 40) (t := 23) (u := 23) (e := 74) (by_ := 32) (x := (.tmp 37)) (y := (.tmp 39)) (cPair cStr cStr) kr rfl (ev (.slice a5 (List.length o4.2) c5)) (ev (.slice (some ⟨b8, 0, none⟩) (List.length ([(x1.1, x1.2)])) 1)) st kr (.inl kr) r5 r8.src hx3 ?_)
       clear st
       intro a7 c7 m11 w16 hle6 st r9
       have hm := Mem.le_trans hm hle6
       have hb2 := hb2.mono hle6
       have r1 := r1.mono hle6
       have r5 := r5.mono hle6
       have r8 := r8.mono hle6
       refine WO_seg 1 [(41, .pointer (some ⟨b4, 0, none⟩))] kr kr ?_
       have st := st.front3
       refine WO_one rfl (One_store (t := 23) (x := (.tmp 41)) (y := (.tmp 40)) (v := .slice a7 (List.length l2) c7) (c' := #[.slice a7 (List.length l2) c7]) kr (ev (.pointer (some ⟨b4, 0, none⟩))) (ev (.slice a7 (List.length l2) c7)) st kr kr ?_)
       clear st
       intro w17 st
       refine WO_end rfl ?_
       have st := st.front2
       have st := st.tail
       refine X_block ?_
       obtain rfl := Option.some.inj hr
       have st := st.front2
       have st := st.tail
       have st := st.front1.front2.front2
       exact X_env _ kr (Ku2 _ _ ⟨a7, c7, m11, rfl, hm, st, hb2, r1, r9⟩)
      ·intro hc
       rw [if_neg (not_true hc)] at hr
       refine W_skip ?_
       refine X_block ?_
       obtain rfl := Option.some.inj hr
       have st := st.tail
       have st := st.front2.front2.front2
       exact X_env _ kr (Ku2 _ _ ⟨a5, c5, m7, rfl, hm, st, hb2, r1, r5⟩)
     ·intro Ku3
      clear hrKu3
      refine W_cond o3 kr ?_ ?_
      ·intro hc
       rw [if_pos hc] at hr
       refine W_sr (WO_seg 1 [(25, .pointer (some ⟨b4, 0, none⟩))] kr kr ?_)
       refine WO_one rfl (One_load_own (d := 26) (t := 23) (x := (.tmp 25)) (.slice a3 (List.length s1.2.2) c3) kr rfl (ev (.pointer (some ⟨b4, 0, none⟩))) st.tail.head kr ?_)
       refine WO_one rfl (One_load_row (d := 27) (t := 74) (x := (.tmp 3)) (.agg #[.string p1.1, .string p1.2]) kr rfl (ev (.pointer (some ⟨b2, 0, none⟩))) st hb2 kr ?_)
       refine WO_one rfl (One_buildSlice (d := 28) (t := 23) (e := 74) (len := 1) (parts := #[(0, (.tmp 27))]) (cPair cStr cStr) (xs := [(p1.1, p1.2)]) [.string p1.1, .string p1.2] kr rfl (fun _ => buildCells_run kr _) rfl rfl st ⟨[.string p1.1, .string p1.2], _, rfl, ⟨_, _, rfl, rfl, rfl⟩, rfl⟩ ?_)
       clear st
       intro b7 m8 w12 hle3 st r6
       have hm := Mem.le_trans hm hle3
       have hb2 := hb2.mono hle3
       have r1 := r1.mono hle3
       have r3 := r3.mono hle3
       have st := st.front4
       replace ⟨l1, hx2, hr⟩ := bindS hr
       refine WO_one rfl (One_append (d := 29) (t := 23) (u := 23) (e := 74) (by_ := 32) (x := (.tmp 26)) (y := (.tmp 28)) (cPair cStr cStr) kr rfl (ev (.slice a3 (List.length s1.2.2) c3)) (ev (.slice (some ⟨b7, 0, none⟩) (List.length ([(p1.1, p1.2)])) 1)) st kr (.inl kr) r3 r6.src hx2 ?_)
       clear st
       intro a6 c6 m9 w13 hle4 st r7
       have hm := Mem.le_trans hm hle4
       have hb2 := hb2.mono hle4
       have r1 := r1.mono hle4
       have r3 := r3.mono hle4
       have r6 := r6.mono hle4
       refine WO_seg 1 [(30, .pointer (some ⟨b4, 0, none⟩))] kr kr ?_
       have st := st.front3
       refine WO_one rfl (One_store (t := 23) (x := (.tmp 30)) (y := (.tmp 29)) (v := .slice a6 (List.length l1) c6) (c' := #[.slice a6 (List.length l1) c6]) kr (ev (.pointer (some ⟨b4, 0, none⟩))) (ev (.slice a6 (List.length l1) c6)) st kr kr ?_)
       clear st
       intro w14 st
       refine WO_end rfl ?_
       have st := st.front2
       have st := st.tail
       refine X_then ?_
       refine W_region ?_
       refine WO_seg 1 [(6, .bool true)] kr kr ?_
       refine WO_end rfl ?_
       obtain rfl := Option.some.inj hr
       have st := st.front1.front3.front2.front3
       exact X_env _ kr (Ku3 _ _ ⟨a6, c6, m9, rfl, hm, st, hb2, r1, r7⟩)
      ·intro hc
       rw [if_neg (not_true hc)] at hr
       refine W_skip ?_
       obtain rfl := Option.some.inj hr
       have st := st.front3.front3.front3.front3
       exact X_env _ kr (Ku3 _ _ ⟨a3, c3, m6, rfl, hm, st, hb2, r1, r3⟩)
    ·intro K
     clear hrK
     refine WO_seg 3 [(18, .bool (!s1.1))] kr kr ?_
     rcases bcases (!s1.1) with hc | hc
     ·rw [if_pos hc] at hr
      refine WO_fact (t := 18) (b := true) (!s1.1) kr hc ?_
      refine WO_seg 1 [(19, .pointer (some ⟨b2, 0, none⟩))] kr kr ?_
      refine WO_one rfl (One_load_row (d := 20) (t := 9) (x := (.tmp 19)) (.string p1.1) kr rfl (ev (.pointer (some ⟨b2, 0, none⟩))) st hb2 kr ?_)
      refine WO_seg 1 [(21, .pointer (some ⟨b6, 0, none⟩))] kr kr ?_
      refine WO_one rfl (One_load_own (d := 22) (t := 9) (x := (.tmp 21)) (.string x1.1) kr rfl (ev (.pointer (some ⟨b6, 0, none⟩))) st.head kr ?_)
      refine WO_seg 2 [(24, .bool (Op.bytesLess p1.1.toList x1.1.toList || (p1.1.toList == x1.1.toList)))] kr kr ?_
      obtain rfl := Option.some.inj hr
      have st := st.front3.front3.front3.front3
      exact WO_env _ kr (K _ _ ⟨m4, rfl, hm, st, hb2, r1, r3⟩)
     ·rw [if_neg (not_true hc)] at hr
      refine WO_fact (t := 18) (b := false) (!s1.1) kr hc ?_
      refine WO_seg 6 [(24, .bool false)] kr kr ?_
      obtain rfl := Option.some.inj hr
      have st := st.front3.front3.front3.front3
      exact WO_env _ kr (K _ _ ⟨m4, rfl, hm, st, hb2, r1, r3⟩)
  ·intro hc
   rw [if_neg (not_true hc)] at hr
   refine W_exit ?_
   refine X_then_exit ?_
   obtain rfl := Option.some.inj hr
   have ho := hBu1 _ rfl
   have st := st.front2.front2.front2
   refine X_then_exit ?_
   exact X_env _ kr (K0_u1 _ _ ⟨(s1.1, s1.2.2), a3, c3, m4, ho, rfl, hm, st, hb2, r3⟩)
def testgatemake_Tape_Text_L1 (N : Nat) (p1 : Int) (p2 : ByteArray) (s1 : List (UInt8) × Int × List (Int) × Int) : Option ((List (UInt8) × Int × List (Int) × Int) ⊕ ((List (UInt8) × List (Int) × Int))) :=
 if (decide (s1.2.1 < p1)) = true then ((testgatemake_Tape_Next N (s1.2.2.1, s1.2.2.2) (ByteArray.size p2 : Int)).bind fun y1 => (idxB p2 y1.2).bind fun x1 => (appendS 1 s1.1 ([x1])).bind fun l1 => some (.inl (l1, IntKind.wrap .i64 (s1.2.1 + 1), y1.1.1, y1.1.2))) else (some (.inr (s1.1, s1.2.2.1, s1.2.2.2)))
def testgatemake_Tape_Text (N : Nat) (p0 : List Int × Int) (p1 : Int) (p2 : ByteArray) : Option ((List Int × Int) × ByteArray) :=
 (loopM (testgatemake_Tape_Text_L1 N p1 p2) N (([] : List (UInt8)), 0, p0.1, p0.2)).bind fun o1 => some ((o1.2.1, o1.2.2), strOf o1.1)
set_option maxHeartbeats 4000000 in
set_option maxRecDepth 100000 in
theorem testgatemake_Tape_Text_ok {N : Nat} {m : Mem} {own : List Piece} {w : World} {p0 : List Int × Int} {p1 : Int} {p2 : ByteArray} {bp0 : Nat} {a1 : Option Addr} {c1 : Nat} {r : (List Int × Int) × ByteArray} (st : St m (.blk bp0 (.cells #[.slice a1 (List.length p0.1) c1, .int .i64 p0.2] 28 (0, 0)) :: own) w) (r1 : RepS (cInt .i64) m a1 c1 p0.1) (hr : testgatemake_Tape_Text N p0 p1 p2 = some r) : Calls Tryz.prog 115 #[.pointer (some ⟨bp0, 0, none⟩), .int .i64 p1, .string p2] w fun e w' => ∃ (ra1 : Option Addr) (rc1 : Nat) (m' : Mem), e = .returned (.string r.2) ∧ m.le m' ∧ St m' (.blk bp0 (.cells #[.slice ra1 (List.length r.1.1) rc1, .int .i64 r.1.2] 28 (0, 0)) :: own) w' ∧ RepS (cInt .i64) m' ra1 rc1 r.1.1 := by
 unfold testgatemake_Tape_Text at hr
 have hm := m.le_refl
 refine W_calls Tryz.func115 rfl Tryz.ntmps115 [(0, .pointer (some ⟨bp0, 0, none⟩)), (1, .int .i64 p1), (2, .string p2)] kr rfl ?_
 refine W_sr (WO_seg 1 [] kr kr ?_)
 refine WO_et rfl (W_sr ?_)
 refine WO_seg 1 [(7, .slice none (List.length ([] : List (UInt8))) 0)] kr kr ?_
 refine WO_et rfl (W_seq ?_)
 refine W_sr (WO_seg 1 [(8, .int .i64 0)] kr kr ?_)
 refine WO_et rfl (W_block ?_)
 replace ⟨out1, hr, hrKu1⟩ := bindS hr
 refine W_cut (.exit 0) (fun L' w' => ∃ (o1 : List (UInt8) × List (Int) × Int) (a2 : Option Addr) (c2 : Nat) (a3 : Option Addr) (c3 : Nat) (m1 : Mem), o1 = out1 ∧ L' = [(7, .slice a2 (List.length o1.1) c2)] ∧ m.le m1 ∧ St m1 (.blk bp0 (.cells #[.slice a3 (List.length o1.2.1) c3, .int .i64 o1.2.2] 28 (0, 0)) :: .room a2 (List.length o1.1) c2 5 1 :: own) w' ∧ RepS cU8 m1 a2 c2 o1.1 ∧ RepS (cInt .i64) m1 a3 c3 o1.2.1) ?_ ?_
 ·clear hr st
  rintro _ w1 ⟨o1, a2, c2, a3, c3, m1, rfl, rfl, hm, st, r2, r3⟩
  have hr := hrKu1
  clear hrKu1
  refine X_block_eq ?_
  refine X_then ?_
  refine W_sr (WO_seg 1 [(23, .slice a2 (List.length o1.1) c2)] kr kr ?_)
  refine WO_one rfl (One_bytesStr (d := 24) (t1 := 190) (t2 := 9) (e := 5) (x := (.tmp 23)) kr rfl (ev (.slice a2 (List.length o1.1) c2)) kr kr st r2 ?_)
  refine WO_seg 1 [(6, .string (strOf o1.1))] kr kr ?_
  refine WO_end rfl ?_
  have st := st.front1
  have st := st.tail
  refine X_then ?_
  refine W_ret ?_
  obtain rfl := Option.some.inj hr
  refine X_ret [.tmp 6] [.string (strOf o1.1)] rfl (ResAll.cons (ResAt.tmp kr) ResAll.nil) ?_
  exact ⟨a3, c3, m1, rfl, hm, st, r3⟩
 intro K0_u1
 clear hrKu1
 have st := st.nilroom 5 1
 have st := st.front1
 refine W_env _ kr (W_loop (fun k1 L' w' => ∃ (s1 : List (UInt8) × Int × List (Int) × Int) (a4 : Option Addr) (c4 : Nat) (a5 : Option Addr) (c5 : Nat) (m2 : Mem), loopM (testgatemake_Tape_Text_L1 N p1 p2) k1 s1 = some out1 ∧ L' = [(0, .pointer (some ⟨bp0, 0, none⟩)), (1, .int .i64 p1), (2, .string p2), (7, .slice a4 (List.length s1.1) c4), (8, .int .i64 s1.2.1)] ∧ m.le m2 ∧ St m2 (.blk bp0 (.cells #[.slice a5 (List.length s1.2.2.1) c5, .int .i64 s1.2.2.2] 28 (0, 0)) :: .room a4 (List.length s1.1) c4 5 1 :: own) w' ∧ RepS cU8 m2 a4 c4 s1.1 ∧ RepS (cInt .i64) m2 a5 c5 s1.2.2.1) N ⟨(([] : List (UInt8)), 0, p0.1, p0.2), none, 0, a1, c1, m, hr, rfl, hm, st, (RepS.nil _ _), r1⟩ ?_)
 clear st hr
 rintro k1 _ w2 ⟨s1, a4, c4, a5, c5, m2, hL, rfl, hm, st, r4, r5⟩
 rcases k1 with _ | k1
 ·exact loopM_zero hL
 ·obtain ⟨qu1, hr, hSu1, hBu1⟩ := loopM_succ hL
  clear hL
  unfold testgatemake_Tape_Text_L1 at hr
  refine W_seq ?_
  refine W_sr (WO_seg 3 [(11, .bool (decide (s1.2.1 < p1)))] kr kr ?_)
  refine WO_et rfl (W_cond (decide (s1.2.1 < p1)) kr ?_ ?_)
  ·intro hc
   rw [if_pos hc] at hr
   refine W_skip ?_
   refine X_then ?_
   refine W_seq ?_
   refine W_block ?_
   refine W_region ?_
   refine WO_seg 5 [(14, .slice a4 (List.length s1.1) c4), (15, .string p2), (16, .pointer (some ⟨bp0, 0, none⟩)), (18, .int .i64 (ByteArray.size p2 : Int))] kr kr ?_
   replace ⟨y1, hx1, hr⟩ := bindS hr
   refine WO_one rfl (One_fn 19 14 #[.pointer (some ⟨bp0, 0, none⟩), .int .i64 (ByteArray.size p2 : Int)] kr rfl ?_)
   refine (testgatemake_Tape_Next_ok st r5 hx1).mono ?_
   clear st
   rintro _ w3 ⟨a6, c6, m3, rfl, hle1, st, r6⟩
   refine ⟨_, rfl, ?_⟩
   have hm := Mem.le_trans hm hle1
   have r4 := r4.mono hle1
   have r5 := r5.mono hle1
   replace ⟨x1, hx2, hr⟩ := bindS hr
   refine WO_one rfl (One_strIndex (d := 20) (t := 9) (x := (.tmp 15)) (y := (.tmp 19)) kr rfl (ev (.string p2)) (ev (.int .i64 y1.2)) kr hx2 ?_)
   refine WO_one rfl (One_buildSlice (d := 21) (t := 190) (e := 5) (len := 1) (parts := #[(0, (.tmp 20))]) cU8 (xs := [x1]) [.int .u8 (x1.toNat : Int)] kr rfl (fun _ => buildCells_run kr _) rfl rfl st ⟨[.int .u8 (x1.toNat : Int)], _, rfl, rfl, rfl⟩ ?_)
   clear st
   intro b1 m4 w4 hle2 st r7
   have hm := Mem.le_trans hm hle2
   have r4 := r4.mono hle2
   have r6 := r6.mono hle2
   have st := st.front2
   replace ⟨l1, hx3, hr⟩ := bindS hr
   refine WO_one rfl (One_append (d := 22) (t := 190) (u := 190) (e := 5) (by_ := 1) (x := (.tmp 14)) (y := (.tmp 21)) cU8 kr rfl (ev (.slice a4 (List.length s1.1) c4)) (ev (.slice (some ⟨b1, 0, none⟩) (List.length ([x1])) 1)) st kr (.inl kr) r4 r7.src hx3 ?_)
   clear st
   intro a7 c7 m5 w5 hle3 st r8
   have hm := Mem.le_trans hm hle3
   have r4 := r4.mono hle3
   have r7 := r7.mono hle3
   have r6 := r6.mono hle3
   refine WO_seg 1 [(7, .slice a7 (List.length l1) c7)] kr kr ?_
   refine WO_end rfl ?_
   have st := st.front1
   have st := st.tail
   refine X_block ?_
   refine X_then ?_
   refine W_region ?_
   refine WO_seg 3 [(8, .int .i64 (IntKind.wrap .i64 (s1.2.1 + 1)))] kr kr ?_
   refine WO_end rfl ?_
   obtain rfl := Option.some.inj hr
   have hL := hSu1 _ rfl
   have st := st.front1
   exact X_env _ kr (X_round k1 (Nat.lt_succ_self _) ⟨(l1, IntKind.wrap .i64 (s1.2.1 + 1), y1.1.1, y1.1.2), a7, c7, a6, c6, m5, hL, rfl, hm, st, r8, r6⟩)
  ·intro hc
   rw [if_neg (not_true hc)] at hr
   refine W_exit ?_
   refine X_then_exit ?_
   obtain rfl := Option.some.inj hr
   have ho := hBu1 _ rfl
   have st := st.front1.front1
   refine X_then_exit ?_
   exact X_env _ kr (K0_u1 _ _ ⟨(s1.1, s1.2.2.1, s1.2.2.2), a4, c4, a5, c5, m2, ho, rfl, hm, st, r4, r5⟩)
def testgatemake_data (N : Nat) (p0 : List Int × Int) : Option ((List Int × Int) × ByteArray) :=
 (testgatemake_Tape_Next N (p0.1, p0.2) 4).bind fun y1 => (testgatemake_Tape_Text N (y1.1.1, y1.1.2) y1.2 (⟨#[97, 98, 0, 255, 48]⟩ : ByteArray)).bind fun y2 => some ((y2.1.1, y2.1.2), y2.2)
set_option maxHeartbeats 4000000 in
set_option maxRecDepth 100000 in
theorem testgatemake_data_ok {N : Nat} {m : Mem} {own : List Piece} {w : World} {p0 : List Int × Int} {bp0 : Nat} {a1 : Option Addr} {c1 : Nat} {r : (List Int × Int) × ByteArray} (st : St m (.blk bp0 (.cells #[.slice a1 (List.length p0.1) c1, .int .i64 p0.2] 28 (0, 0)) :: own) w) (r1 : RepS (cInt .i64) m a1 c1 p0.1) (hr : testgatemake_data N p0 = some r) : Calls Tryz.prog 56 #[.pointer (some ⟨bp0, 0, none⟩)] w fun e w' => ∃ (ra1 : Option Addr) (rc1 : Nat) (m' : Mem), e = .returned (.string r.2) ∧ m.le m' ∧ St m' (.blk bp0 (.cells #[.slice ra1 (List.length r.1.1) rc1, .int .i64 r.1.2] 28 (0, 0)) :: own) w' ∧ RepS (cInt .i64) m' ra1 rc1 r.1.1 := by
 unfold testgatemake_data at hr
 have hm := m.le_refl
 refine W_calls Tryz.func56 rfl Tryz.ntmps56 [(0, .pointer (some ⟨bp0, 0, none⟩))] kr rfl ?_
 refine W_sr (WO_seg 1 [] kr kr ?_)
 refine WO_et rfl (W_sr ?_)
 refine WO_seg 2 [(3, .pointer (some ⟨bp0, 0, none⟩)), (4, .pointer (some ⟨bp0, 0, none⟩))] kr kr ?_
 replace ⟨y1, hx1, hr⟩ := bindS hr
 refine WO_one rfl (One_fn 5 14 #[.pointer (some ⟨bp0, 0, none⟩), .int .i64 4] kr rfl ?_)
 refine (testgatemake_Tape_Next_ok st r1 hx1).mono ?_
 clear st
 rintro _ w1 ⟨a2, c2, m1, rfl, hle1, st, r2⟩
 refine ⟨_, rfl, ?_⟩
 have hm := Mem.le_trans hm hle1
 have r1 := r1.mono hle1
 replace ⟨y2, hx2, hr⟩ := bindS hr
 refine WO_one rfl (One_fn 6 115 #[.pointer (some ⟨bp0, 0, none⟩), .int .i64 y1.2, .string (⟨#[97, 98, 0, 255, 48]⟩ : ByteArray)] kr rfl ?_)
 refine (testgatemake_Tape_Text_ok st r2 hx2).mono ?_
 clear st
 rintro _ w2 ⟨a3, c3, m2, rfl, hle2, st, r3⟩
 refine ⟨_, rfl, ?_⟩
 have hm := Mem.le_trans hm hle2
 have r2 := r2.mono hle2
 refine WO_seg 1 [(2, .string y2.2)] kr kr ?_
 refine WO_et rfl (W_ret ?_)
 obtain rfl := Option.some.inj hr
 refine X_ret [.tmp 2] [.string y2.2] rfl (ResAll.cons (ResAt.tmp kr) ResAll.nil) ?_
 exact ⟨a3, c3, m2, rfl, hm, st, r3⟩
end Go.Proofs.YtgggihpbhmbjaaaGreatDoor
