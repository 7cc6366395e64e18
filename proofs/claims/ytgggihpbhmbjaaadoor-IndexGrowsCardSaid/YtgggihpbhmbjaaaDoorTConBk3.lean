/- MADE BY gen.py: plain functions and the proofs that the Go functions compute them. No condition but those of each theorem. -/
import Derived.Test.YtgggihpbhmbjaaaDoorProg
import Derived.Test.YtgggihpbhmbjaaaDoorViewk3
import Derived.Test.YtgggihpbhmbjaaaDoorMapDk3
import Derived.Test.YtgggihpbhmbjaaaDoorLink3
import Derived.Test.YtgggihpbhmbjaaaDoorTConAk3
namespace Go.Proofs.YtgggihpbhmbjaaaDoor
open Go Go.Dc
def index_well_L1 (N : Nat) (p0 : (ByteArray × ByteArray) × Int × Int × Int × (Int × Int × Int) × Bool × (List ((Int × ByteArray × ByteArray) × Int))) (s1 : Int) : Option ((Int) ⊕ ((Unit) ⊕ (Int))) :=
 if (decide (s1 < (List.length p0.2.2.2.2.2.2 : Int))) = true then ((idx p0.2.2.2.2.2.2 s1).bind fun x1 => (index_well_1 N ((x1.1.1, x1.1.2.1, x1.1.2.2), x1.2)).bind fun y1 => if y1 = true then (some (.inr (.inr (s1)))) else (some (.inl (IntKind.wrap .i64 (s1 + 1))))) else (some (.inr (.inl ())))
def index_well (N : Nat) (p0 : (ByteArray × ByteArray) × Int × Int × Int × (Int × Int × Int) × Bool × (List ((Int × ByteArray × ByteArray) × Int))) : Option (Bool) :=
 ((loopM (index_well_L1 N p0) N 0).bind fun out1 => (match out1 with | .inl o2 => some (-1) | .inr (z) => some z) : Option (Int)).bind fun o1 => some (!(decide (o1 ≥ 0)))
set_option maxHeartbeats 4000000 in
set_option maxRecDepth 100000 in
theorem index_well_ok {N : Nat} {m : Mem} {own : List Piece} {w : World} {p0 : (ByteArray × ByteArray) × Int × Int × Int × (Int × Int × Int) × Bool × (List ((Int × ByteArray × ByteArray) × Int))} {a1 : Option Addr} {c1 : Nat} {r : Bool} (st : St m (own) w) (r1 : RepS (cPair (cPair (cInt .i64) (cPair cStr cStr)) (cInt .i64)) m a1 c1 p0.2.2.2.2.2.2) (hr : index_well N p0 = some r) : Calls Tryd.prog 58 #[.agg #[.string p0.1.1, .string p0.1.2, .int .i64 p0.2.1, .int .i64 p0.2.2.1, .int .i64 p0.2.2.2.1, .int .i64 p0.2.2.2.2.1.1, .int .i64 p0.2.2.2.2.1.2.1, .int .i64 p0.2.2.2.2.1.2.2, .bool p0.2.2.2.2.2.1, .slice a1 (List.length p0.2.2.2.2.2.2) c1]] w fun e w' => ∃ (m' : Mem), e = .returned (.bool r) ∧ m.le m' ∧ St m' (own) w' := by
 unfold index_well at hr
 have hm := m.le_refl
 refine W_calls Tryd.func58 rfl Tryd.ntmps58 [(0, .agg #[.string p0.1.1, .string p0.1.2, .int .i64 p0.2.1, .int .i64 p0.2.2.1, .int .i64 p0.2.2.2.1, .int .i64 p0.2.2.2.2.1.1, .int .i64 p0.2.2.2.2.1.2.1, .int .i64 p0.2.2.2.2.1.2.2, .bool p0.2.2.2.2.2.1, .slice a1 (List.length p0.2.2.2.2.2.2) c1])] kr rfl ?_
 refine W_sr (WO_one rfl (One_box (d := 1) (e := 73) (x := (.tmp 0)) (.agg #[.string p0.1.1, .string p0.1.2, .int .i64 p0.2.1, .int .i64 p0.2.2.1, .int .i64 p0.2.2.2.1, .int .i64 p0.2.2.2.2.1.1, .int .i64 p0.2.2.2.2.1.2.1, .int .i64 p0.2.2.2.2.1.2.2, .bool p0.2.2.2.2.2.1, .slice a1 (List.length p0.2.2.2.2.2.2) c1]) kr rfl kr st ?_))
 clear st
 intro b1 m1 w1 hle1 st hb1
 have hm := Mem.le_trans hm hle1
 have r1 := r1.mono hle1
 refine WO_seg 1 [] kr kr ?_
 refine WO_et rfl (W_sr ?_)
 refine WO_seg 1 [(3, .pointer (some ⟨b1, 9, none⟩))] kr kr ?_
 refine WO_one rfl (One_load_row (d := 4) (t := 71) (x := (.tmp 3)) (.slice a1 (List.length p0.2.2.2.2.2.2) c1) kr rfl (ev (.pointer (some ⟨b1, 9, none⟩))) st (hb1.drop 9) kr ?_)
 refine WO_one rfl (One_fn 5 86 #[.slice a1 (List.length p0.2.2.2.2.2.2) c1, .func (.func 87) #[] #[]] kr rfl ?_)
 refine W_calls Tryd.func86 rfl Tryd.ntmps86 [(0, .slice a1 (List.length p0.2.2.2.2.2.2) c1), (1, .func (.func 87) #[] #[])] kr rfl ?_
 refine W_sr (WO_seg 1 [] kr kr ?_)
 refine WO_et rfl (W_sr ?_)
 refine WO_seg 2 [(5, .slice a1 (List.length p0.2.2.2.2.2.2) c1), (6, .func (.func 87) #[] #[])] kr kr ?_
 replace ⟨o1, hr, hrKu1⟩ := bindS hr
 refine WO_one rfl (One_fn 7 110 #[.slice a1 (List.length p0.2.2.2.2.2.2) c1, .func (.func 87) #[] #[]] kr rfl ?_)
 refine Calls_cut (fun v' w' => ∃ (m2 : Mem), v' = (.int .i64 o1) ∧ m.le m2 ∧ St m2 (own) w' ∧ MRow m2 b1 0 [.string p0.1.1, .string p0.1.2, .int .i64 p0.2.1, .int .i64 p0.2.2.1, .int .i64 p0.2.2.2.1, .int .i64 p0.2.2.2.2.1.1, .int .i64 p0.2.2.2.2.1.2.1, .int .i64 p0.2.2.2.2.1.2.2, .bool p0.2.2.2.2.2.1, .slice a1 (List.length p0.2.2.2.2.2.2) c1] ∧ RepS (cPair (cPair (cInt .i64) (cPair cStr cStr)) (cInt .i64)) m2 a1 c1 p0.2.2.2.2.2.2) ?_ ?_
 ·clear hr st
  have hr := hrKu1
  clear hrKu1
  rintro _ w2 ⟨m2, rfl, hm, st, hb1, r1⟩
  refine ⟨_, rfl, ?_⟩
  refine WO_seg 2 [(4, .bool (decide (o1 ≥ 0)))] kr kr ?_
  refine WO_et rfl (W_ret ?_)
  refine X_ret [.tmp 4] [.bool (decide (o1 ≥ 0))] rfl (ResAll.cons (ResAt.tmp kr) ResAll.nil) ?_
  refine ⟨_, rfl, ?_⟩
  refine WO_seg 2 [(2, .bool (!(decide (o1 ≥ 0))))] kr kr ?_
  refine WO_et rfl (W_ret ?_)
  obtain rfl := Option.some.inj hr
  refine X_ret [.tmp 2] [.bool (!(decide (o1 ≥ 0)))] rfl (ResAll.cons (ResAt.tmp kr) ResAll.nil) ?_
  exact ⟨m2, rfl, hm, st⟩
 ·clear hrKu1
  refine W_calls Tryd.func110 rfl Tryd.ntmps110 [(0, .slice a1 (List.length p0.2.2.2.2.2.2) c1), (1, .func (.func 87) #[] #[])] kr rfl ?_
  refine W_sr (WO_seg 1 [] kr kr ?_)
  refine WO_et rfl (W_seq ?_)
  refine W_sr (WO_seg 3 [(7, .int .i64 (List.length p0.2.2.2.2.2.2 : Int)), (8, .int .i64 0)] kr kr ?_)
  refine WO_et rfl (W_block ?_)
  replace ⟨out1, hr, hrKu2⟩ := bindS hr
  refine W_cut (.exit 0) (fun L' w' => ∃ (o2 : Unit) (m3 : Mem), (.inl o2) = out1 ∧ L' = [] ∧ m.le m3 ∧ St m3 (own) w' ∧ MRow m3 b1 0 [.string p0.1.1, .string p0.1.2, .int .i64 p0.2.1, .int .i64 p0.2.2.1, .int .i64 p0.2.2.2.1, .int .i64 p0.2.2.2.2.1.1, .int .i64 p0.2.2.2.2.1.2.1, .int .i64 p0.2.2.2.2.1.2.2, .bool p0.2.2.2.2.2.1, .slice a1 (List.length p0.2.2.2.2.2.2) c1] ∧ RepS (cPair (cPair (cInt .i64) (cPair cStr cStr)) (cInt .i64)) m3 a1 c1 p0.2.2.2.2.2.2) ?_ ?_
  ·clear hr st
   rintro _ w3 ⟨o2, m3, rfl, rfl, hm, st, hb1, r1⟩
   have hr := hrKu2
   clear hrKu2
   dsimp only at hr
   refine X_block_eq ?_
   refine X_then ?_
   refine W_sr (WO_seg 1 [(4, .int .i64 (-1))] kr kr ?_)
   refine WO_et rfl (W_ret ?_)
   obtain rfl := Option.some.inj hr
   refine X_ret [.tmp 4] [.int .i64 (-1)] rfl (ResAll.cons (ResAt.tmp kr) ResAll.nil) ?_
   exact ⟨_, rfl, ⟨m3, rfl, hm, st, hb1, r1⟩⟩
  intro K0_u2
  refine W_env _ kr (W_loop (fun k1 L' w' => ∃ (s1 : Int) (m4 : Mem), loopM (index_well_L1 N p0) k1 s1 = some out1 ∧ L' = [(0, .slice a1 (List.length p0.2.2.2.2.2.2) c1), (1, .func (.func 87) #[] #[]), (7, .int .i64 (List.length p0.2.2.2.2.2.2 : Int)), (8, .int .i64 s1)] ∧ m.le m4 ∧ St m4 (own) w' ∧ RepS (cPair (cPair (cInt .i64) (cPair cStr cStr)) (cInt .i64)) m4 a1 c1 p0.2.2.2.2.2.2 ∧ MRow m4 b1 0 [.string p0.1.1, .string p0.1.2, .int .i64 p0.2.1, .int .i64 p0.2.2.1, .int .i64 p0.2.2.2.1, .int .i64 p0.2.2.2.2.1.1, .int .i64 p0.2.2.2.2.1.2.1, .int .i64 p0.2.2.2.2.1.2.2, .bool p0.2.2.2.2.2.1, .slice a1 (List.length p0.2.2.2.2.2.2) c1]) N ⟨0, m1, hr, rfl, hm, st, r1, hb1⟩ ?_)
  clear st hr
  rintro k1 _ w4 ⟨s1, m4, hL, rfl, hm, st, r1, hb1⟩
  rcases k1 with _ | k1
  ·exact loopM_zero hL
  ·obtain ⟨qu2, hr, hSu2, hBu2⟩ := loopM_succ hL
   clear hL
   unfold index_well_L1 at hr
   refine W_sr (WO_seg 1 [(9, .bool (decide (s1 < (List.length p0.2.2.2.2.2.2 : Int))))] kr kr ?_)
   refine WO_et rfl (W_seq ?_)
   refine W_cond (decide (s1 < (List.length p0.2.2.2.2.2.2 : Int))) kr ?_ ?_
   ·intro hc
    rw [if_pos hc] at hr
    refine W_skip ?_
    refine X_then ?_
    refine W_seq ?_
    refine W_block ?_
    refine W_sr (WO_seg 2 [(5, .int .i64 s1)] kr kr ?_)
    refine WO_et rfl (W_sr ?_)
    refine WO_seg 3 [(11, .func (.func 87) #[] #[]), (12, .slice a1 (List.length p0.2.2.2.2.2.2) c1), (13, .int .i64 s1)] kr kr ?_
    replace ⟨x1, hx1, hr⟩ := bindS hr
    refine WO_one rfl (One_index (d := 14) (t := 71) (e := 102) (x := (.tmp 12)) (y := (.tmp 13)) (cPair (cPair (cInt .i64) (cPair cStr cStr)) (cInt .i64)) kr rfl (ev (.slice a1 (List.length p0.2.2.2.2.2.2) c1)) (ev (.int .i64 s1)) kr r1 hx1 ?_)
    rintro b2 f1 cs1 ⟨_, _, rfl, ⟨_, _, rfl, rfl, ⟨_, _, rfl, rfl, rfl⟩⟩, rfl⟩ hq1
    refine WO_one rfl (One_load_row (d := 15) (t := 102) (x := (.tmp 14)) (.agg #[.int .i64 x1.1.1, .string x1.1.2.1, .string x1.1.2.2, .int .i64 x1.2]) kr rfl (ev (.pointer (some ⟨b2, f1, none⟩))) st hq1 kr ?_)
    replace ⟨y1, hx2, hr⟩ := bindS hr
    refine WO_one rfl (One_fn 16 87 #[.agg #[.int .i64 x1.1.1, .string x1.1.2.1, .string x1.1.2.2, .int .i64 x1.2]] kr rfl ?_)
    refine (index_well_1_ok st hx2).mono ?_
    clear st
    rintro _ w5 ⟨m5, rfl, hle2, st⟩
    refine ⟨_, rfl, ?_⟩
    have hm := Mem.le_trans hm hle2
    have r1 := r1.mono hle2
    have hq1 := hq1.mono hle2
    have hb1 := hb1.mono hle2
    refine WO_et rfl (W_cond y1 kr ?_ ?_)
    ·intro hc
     rw [if_pos hc] at hr
     refine W_sr (WO_seg 2 [(4, .int .i64 s1)] kr kr ?_)
     refine WO_et rfl (W_ret ?_)
     refine X_block_ret ?_
     refine X_then_ret ?_
     obtain rfl := Option.some.inj hr
     have ho := hBu2 _ rfl
     subst ho
     have hr := hrKu2
     dsimp only at hr
     refine X_then_ret ?_
     refine X_block_ret ?_
     refine X_then_ret ?_
     obtain rfl := Option.some.inj hr
     refine X_ret [.tmp 4] [.int .i64 s1] rfl (ResAll.cons (ResAt.tmp kr) ResAll.nil) ?_
     exact ⟨_, rfl, ⟨m5, rfl, hm, st, hb1, r1⟩⟩
    ·intro hc
     rw [if_neg (not_true hc)] at hr
     refine W_skip ?_
     refine X_block ?_
     refine X_then ?_
     refine W_region ?_
     refine WO_seg 2 [(8, .int .i64 (IntKind.wrap .i64 (s1 + 1)))] kr kr ?_
     refine WO_end rfl ?_
     obtain rfl := Option.some.inj hr
     have hL := hSu2 _ rfl
     exact X_env _ kr (X_round k1 (Nat.lt_succ_self _) ⟨IntKind.wrap .i64 (s1 + 1), m5, hL, rfl, hm, st, r1, hb1⟩)
   ·intro hc
    rw [if_neg (not_true hc)] at hr
    refine W_exit ?_
    refine X_then_exit ?_
    obtain rfl := Option.some.inj hr
    have ho := hBu2 _ rfl
    refine X_then_exit ?_
    exact X_env _ kr (K0_u2 _ _ ⟨(), m4, ho, rfl, hm, st, hb1, r1⟩)
def index_Build_1 (N : Nat) (p0 : (ByteArray × ByteArray) × Int × Int × Int × (Int × Int × Int) × Bool × (List ((Int × ByteArray × ByteArray) × Int))) : Option (Bool) :=
 (index_well N ((p0.1.1, p0.1.2), p0.2.1, p0.2.2.1, p0.2.2.2.1, (p0.2.2.2.2.1.1, p0.2.2.2.2.1.2.1, p0.2.2.2.2.1.2.2), p0.2.2.2.2.2.1, p0.2.2.2.2.2.2)).bind fun y1 => some (!y1)
set_option maxHeartbeats 4000000 in
set_option maxRecDepth 100000 in
theorem index_Build_1_ok {N : Nat} {m : Mem} {own : List Piece} {w : World} {p0 : (ByteArray × ByteArray) × Int × Int × Int × (Int × Int × Int) × Bool × (List ((Int × ByteArray × ByteArray) × Int))} {a1 : Option Addr} {c1 : Nat} {r : Bool} (st : St m (own) w) (r1 : RepS (cPair (cPair (cInt .i64) (cPair cStr cStr)) (cInt .i64)) m a1 c1 p0.2.2.2.2.2.2) (hr : index_Build_1 N p0 = some r) : Calls Tryd.prog 57 #[.agg #[.string p0.1.1, .string p0.1.2, .int .i64 p0.2.1, .int .i64 p0.2.2.1, .int .i64 p0.2.2.2.1, .int .i64 p0.2.2.2.2.1.1, .int .i64 p0.2.2.2.2.1.2.1, .int .i64 p0.2.2.2.2.1.2.2, .bool p0.2.2.2.2.2.1, .slice a1 (List.length p0.2.2.2.2.2.2) c1]] w fun e w' => ∃ (m' : Mem), e = .returned (.bool r) ∧ m.le m' ∧ St m' (own) w' := by
 unfold index_Build_1 at hr
 have hm := m.le_refl
 refine W_calls Tryd.func57 rfl Tryd.ntmps57 [(0, .agg #[.string p0.1.1, .string p0.1.2, .int .i64 p0.2.1, .int .i64 p0.2.2.1, .int .i64 p0.2.2.2.1, .int .i64 p0.2.2.2.2.1.1, .int .i64 p0.2.2.2.2.1.2.1, .int .i64 p0.2.2.2.2.1.2.2, .bool p0.2.2.2.2.2.1, .slice a1 (List.length p0.2.2.2.2.2.2) c1])] kr rfl ?_
 refine W_sr (WO_one rfl (One_box (d := 1) (e := 73) (x := (.tmp 0)) (.agg #[.string p0.1.1, .string p0.1.2, .int .i64 p0.2.1, .int .i64 p0.2.2.1, .int .i64 p0.2.2.2.1, .int .i64 p0.2.2.2.2.1.1, .int .i64 p0.2.2.2.2.1.2.1, .int .i64 p0.2.2.2.2.1.2.2, .bool p0.2.2.2.2.2.1, .slice a1 (List.length p0.2.2.2.2.2.2) c1]) kr rfl kr st ?_))
 clear st
 intro b1 m1 w1 hle1 st hb1
 have hm := Mem.le_trans hm hle1
 have r1 := r1.mono hle1
 refine WO_seg 1 [] kr kr ?_
 refine WO_et rfl (W_sr ?_)
 refine WO_one rfl (One_load_row (d := 3) (t := 73) (x := (.tmp 1)) (.agg #[.string p0.1.1, .string p0.1.2, .int .i64 p0.2.1, .int .i64 p0.2.2.1, .int .i64 p0.2.2.2.1, .int .i64 p0.2.2.2.2.1.1, .int .i64 p0.2.2.2.2.1.2.1, .int .i64 p0.2.2.2.2.1.2.2, .bool p0.2.2.2.2.2.1, .slice a1 (List.length p0.2.2.2.2.2.2) c1]) kr rfl (ev (.pointer (some ⟨b1, 0, none⟩))) st hb1 kr ?_)
 replace ⟨y1, hx1, hr⟩ := bindS hr
 refine WO_one rfl (One_fn 4 58 #[.agg #[.string p0.1.1, .string p0.1.2, .int .i64 p0.2.1, .int .i64 p0.2.2.1, .int .i64 p0.2.2.2.1, .int .i64 p0.2.2.2.2.1.1, .int .i64 p0.2.2.2.2.1.2.1, .int .i64 p0.2.2.2.2.1.2.2, .bool p0.2.2.2.2.2.1, .slice a1 (List.length p0.2.2.2.2.2.2) c1]] kr rfl ?_)
 refine (index_well_ok st r1 hx1).mono ?_
 clear st
 rintro _ w2 ⟨m2, rfl, hle2, st⟩
 refine ⟨_, rfl, ?_⟩
 have hm := Mem.le_trans hm hle2
 have hb1 := hb1.mono hle2
 have r1 := r1.mono hle2
 refine WO_seg 2 [(2, .bool (!y1))] kr kr ?_
 refine WO_et rfl (W_ret ?_)
 obtain rfl := Option.some.inj hr
 refine X_ret [.tmp 2] [.bool (!y1)] rfl (ResAll.cons (ResAt.tmp kr) ResAll.nil) ?_
 exact ⟨m2, rfl, hm, st⟩
def record_Keys_L1 (N : Nat) (p0 : (ByteArray × ByteArray) × Int × Int × Int × (Int × Int × Int) × Bool × (List ((Int × ByteArray × ByteArray) × Int))) (s1 : (List (Int × ByteArray × ByteArray)) × Int) : Option (((List (Int × ByteArray × ByteArray)) × Int) ⊕ (((List (Int × ByteArray × ByteArray))))) :=
 if (decide (s1.2 < (List.length p0.2.2.2.2.2.2 : Int))) = true then ((idx p0.2.2.2.2.2.2 s1.2).bind fun x1 => (appendS 40 s1.1 ([(x1.1.1, x1.1.2.1, x1.1.2.2)])).bind fun l1 => some (.inl (l1, IntKind.wrap .i64 (s1.2 + 1)))) else (some (.inr s1.1))
def record_Keys (N : Nat) (p0 : (ByteArray × ByteArray) × Int × Int × Int × (Int × Int × Int) × Bool × (List ((Int × ByteArray × ByteArray) × Int))) : Option (List (Int × ByteArray × ByteArray)) :=
 (loopM (record_Keys_L1 N p0) N (([] : List (Int × ByteArray × ByteArray)), 0)).bind fun o1 => some o1
set_option maxHeartbeats 4000000 in
set_option maxRecDepth 100000 in
theorem record_Keys_ok {N : Nat} {m : Mem} {own : List Piece} {w : World} {p0 : (ByteArray × ByteArray) × Int × Int × Int × (Int × Int × Int) × Bool × (List ((Int × ByteArray × ByteArray) × Int))} {a1 : Option Addr} {c1 : Nat} {r : List (Int × ByteArray × ByteArray)} (st : St m (own) w) (r1 : RepS (cPair (cPair (cInt .i64) (cPair cStr cStr)) (cInt .i64)) m a1 c1 p0.2.2.2.2.2.2) (hr : record_Keys N p0 = some r) : Calls Tryd.prog 89 #[.agg #[.string p0.1.1, .string p0.1.2, .int .i64 p0.2.1, .int .i64 p0.2.2.1, .int .i64 p0.2.2.2.1, .int .i64 p0.2.2.2.2.1.1, .int .i64 p0.2.2.2.2.1.2.1, .int .i64 p0.2.2.2.2.1.2.2, .bool p0.2.2.2.2.2.1, .slice a1 (List.length p0.2.2.2.2.2.2) c1]] w fun e w' => ∃ (ra1 : Option Addr) (rc1 : Nat) (m' : Mem), e = .returned (.slice ra1 (List.length r) rc1) ∧ m.le m' ∧ St m' (.room ra1 (List.length r) rc1 29 3 :: own) w' ∧ RepS (cPair (cInt .i64) (cPair cStr cStr)) m' ra1 rc1 r := by
 unfold record_Keys at hr
 have hm := m.le_refl
 refine W_calls Tryd.func89 rfl Tryd.ntmps89 [(0, .agg #[.string p0.1.1, .string p0.1.2, .int .i64 p0.2.1, .int .i64 p0.2.2.1, .int .i64 p0.2.2.2.1, .int .i64 p0.2.2.2.2.1.1, .int .i64 p0.2.2.2.2.1.2.1, .int .i64 p0.2.2.2.2.1.2.2, .bool p0.2.2.2.2.2.1, .slice a1 (List.length p0.2.2.2.2.2.2) c1])] kr rfl ?_
 refine W_sr (WO_one rfl (One_box (d := 1) (e := 73) (x := (.tmp 0)) (.agg #[.string p0.1.1, .string p0.1.2, .int .i64 p0.2.1, .int .i64 p0.2.2.1, .int .i64 p0.2.2.2.1, .int .i64 p0.2.2.2.2.1.1, .int .i64 p0.2.2.2.2.1.2.1, .int .i64 p0.2.2.2.2.1.2.2, .bool p0.2.2.2.2.2.1, .slice a1 (List.length p0.2.2.2.2.2.2) c1]) kr rfl kr st ?_))
 clear st
 intro b1 m1 w1 hle1 st hb1
 have hm := Mem.le_trans hm hle1
 have r1 := r1.mono hle1
 refine WO_seg 1 [] kr kr ?_
 refine WO_et rfl (W_sr ?_)
 refine WO_seg 1 [(3, .slice none (List.length ([] : List (Int × ByteArray × ByteArray))) 0)] kr kr ?_
 refine WO_et rfl (W_seq ?_)
 refine W_sr (WO_seg 1 [(6, .pointer (some ⟨b1, 9, none⟩))] kr kr ?_)
 refine WO_one rfl (One_load_row (d := 7) (t := 71) (x := (.tmp 6)) (.slice a1 (List.length p0.2.2.2.2.2.2) c1) kr rfl (ev (.pointer (some ⟨b1, 9, none⟩))) st (hb1.drop 9) kr ?_)
 refine WO_seg 2 [(8, .int .i64 (List.length p0.2.2.2.2.2.2 : Int)), (9, .int .i64 0)] kr kr ?_
 refine WO_et rfl (W_block ?_)
 replace ⟨out1, hr, hrKu1⟩ := bindS hr
 refine W_cut (.exit 0) (fun L' w' => ∃ (o1 : (List (Int × ByteArray × ByteArray))) (a2 : Option Addr) (c2 : Nat) (m2 : Mem), o1 = out1 ∧ L' = [(3, .slice a2 (List.length o1) c2)] ∧ m.le m2 ∧ St m2 (.room a2 (List.length o1) c2 29 3 :: own) w' ∧ RepS (cPair (cInt .i64) (cPair cStr cStr)) m2 a2 c2 o1) ?_ ?_
 ·clear hr st
  rintro _ w2 ⟨o1, a2, c2, m2, rfl, rfl, hm, st, r2⟩
  have hr := hrKu1
  clear hrKu1
  refine X_block_eq ?_
  refine X_then ?_
  refine W_sr (WO_seg 2 [(2, .slice a2 (List.length o1) c2)] kr kr ?_)
  refine WO_et rfl (W_ret ?_)
  obtain rfl := Option.some.inj hr
  refine X_ret [.tmp 2] [.slice a2 (List.length o1) c2] rfl (ResAll.cons (ResAt.tmp kr) ResAll.nil) ?_
  exact ⟨a2, c2, m2, rfl, hm, st, r2⟩
 intro K0_u1
 clear hrKu1
 have st := st.nilroom 29 3
 refine W_env _ kr (W_loop (fun k1 L' w' => ∃ (s1 : (List (Int × ByteArray × ByteArray)) × Int) (a3 : Option Addr) (c3 : Nat) (m3 : Mem), loopM (record_Keys_L1 N p0) k1 s1 = some out1 ∧ L' = [(3, .slice a3 (List.length s1.1) c3), (7, .slice a1 (List.length p0.2.2.2.2.2.2) c1), (8, .int .i64 (List.length p0.2.2.2.2.2.2 : Int)), (9, .int .i64 s1.2)] ∧ m.le m3 ∧ St m3 (.room a3 (List.length s1.1) c3 29 3 :: own) w' ∧ RepS (cPair (cInt .i64) (cPair cStr cStr)) m3 a3 c3 s1.1 ∧ RepS (cPair (cPair (cInt .i64) (cPair cStr cStr)) (cInt .i64)) m3 a1 c1 p0.2.2.2.2.2.2) N ⟨(([] : List (Int × ByteArray × ByteArray)), 0), none, 0, m1, hr, rfl, hm, st, (RepS.nil _ _), r1⟩ ?_)
 clear st hr
 rintro k1 _ w3 ⟨s1, a3, c3, m3, hL, rfl, hm, st, r3, r1⟩
 rcases k1 with _ | k1
 ·exact loopM_zero hL
 ·obtain ⟨qu1, hr, hSu1, hBu1⟩ := loopM_succ hL
  clear hL
  unfold record_Keys_L1 at hr
  refine W_sr (WO_seg 1 [(10, .bool (decide (s1.2 < (List.length p0.2.2.2.2.2.2 : Int))))] kr kr ?_)
  refine WO_et rfl (W_seq ?_)
  refine W_cond (decide (s1.2 < (List.length p0.2.2.2.2.2.2 : Int))) kr ?_ ?_
  ·intro hc
   rw [if_pos hc] at hr
   refine W_skip ?_
   refine X_then ?_
   refine W_seq ?_
   refine W_block ?_
   refine W_sr ?_
   replace ⟨x1, hx1, hr⟩ := bindS hr
   refine WO_one rfl (One_index (d := 11) (t := 71) (e := 102) (x := (.tmp 7)) (y := (.tmp 9)) (cPair (cPair (cInt .i64) (cPair cStr cStr)) (cInt .i64)) kr rfl (ev (.slice a1 (List.length p0.2.2.2.2.2.2) c1)) (ev (.int .i64 s1.2)) kr r1 hx1 ?_)
   rintro b2 f1 cs1 ⟨_, _, rfl, ⟨_, _, rfl, rfl, ⟨_, _, rfl, rfl, rfl⟩⟩, rfl⟩ hq1
   refine WO_one rfl (One_load_row (d := 12) (t := 102) (x := (.tmp 11)) (.agg #[.int .i64 x1.1.1, .string x1.1.2.1, .string x1.1.2.2, .int .i64 x1.2]) kr rfl (ev (.pointer (some ⟨b2, f1, none⟩))) st hq1 kr ?_)
   refine WO_one rfl (One_alloc (d := 5) (e := 102) (.agg #[.int .i64 0, .string (⟨#[]⟩ : ByteArray), .string (⟨#[]⟩ : ByteArray), .int .i64 0]) kr rfl kr st ?_)
   clear st
   intro b3 w4 st
   refine WO_one rfl (One_store (t := 102) (x := (.tmp 5)) (y := (.tmp 12)) (v := .agg #[.int .i64 x1.1.1, .string x1.1.2.1, .string x1.1.2.2, .int .i64 x1.2]) (c' := #[.int .i64 x1.1.1, .string x1.1.2.1, .string x1.1.2.2, .int .i64 x1.2]) kr (ev (.pointer (some ⟨b3, 0, none⟩))) (ev (.agg #[.int .i64 x1.1.1, .string x1.1.2.1, .string x1.1.2.2, .int .i64 x1.2])) st kr kr ?_)
   clear st
   intro w5 st
   refine WO_et rfl (W_region ?_)
   refine WO_seg 2 [(13, .slice a3 (List.length s1.1) c3), (14, .pointer (some ⟨b3, 0, none⟩))] kr kr ?_
   refine WO_one rfl (One_load_own (d := 15) (t := 29) (x := (.tmp 14)) (.agg #[.int .i64 x1.1.1, .string x1.1.2.1, .string x1.1.2.2]) kr rfl (ev (.pointer (some ⟨b3, 0, none⟩))) st.head kr ?_)
   refine WO_one rfl (One_buildSlice (d := 16) (t := 23) (e := 29) (len := 1) (parts := #[(0, (.tmp 15))]) (cPair (cInt .i64) (cPair cStr cStr)) (xs := [(x1.1.1, x1.1.2.1, x1.1.2.2)]) [.int .i64 x1.1.1, .string x1.1.2.1, .string x1.1.2.2] kr rfl (fun _ => buildCells_run kr _) rfl rfl st ⟨[.int .i64 x1.1.1, .string x1.1.2.1, .string x1.1.2.2], _, rfl, ⟨_, _, rfl, rfl, ⟨_, _, rfl, rfl, rfl⟩⟩, rfl⟩ ?_)
   clear st
   intro b4 m4 w6 hle2 st r4
   have hm := Mem.le_trans hm hle2
   have r3 := r3.mono hle2
   have r1 := r1.mono hle2
   have st := st.front2
   replace ⟨l1, hx2, hr⟩ := bindS hr
   refine WO_one rfl (One_append (d := 17) (t := 23) (u := 23) (e := 29) (by_ := 40) (x := (.tmp 13)) (y := (.tmp 16)) (cPair (cInt .i64) (cPair cStr cStr)) kr rfl (ev (.slice a3 (List.length s1.1) c3)) (ev (.slice (some ⟨b4, 0, none⟩) (List.length ([(x1.1.1, x1.1.2.1, x1.1.2.2)])) 1)) st kr (.inl kr) r3 r4.src hx2 ?_)
   clear st
   intro a4 c4 m5 w7 hle3 st r5
   have hm := Mem.le_trans hm hle3
   have r3 := r3.mono hle3
   have r1 := r1.mono hle3
   have r4 := r4.mono hle3
   refine WO_seg 1 [(3, .slice a4 (List.length l1) c4)] kr kr ?_
   refine WO_end rfl ?_
   have st := st.front1
   have st := st.tail
   refine X_block ?_
   refine X_then ?_
   refine W_region ?_
   refine WO_seg 2 [(9, .int .i64 (IntKind.wrap .i64 (s1.2 + 1)))] kr kr ?_
   refine WO_end rfl ?_
   obtain rfl := Option.some.inj hr
   have hL := hSu1 _ rfl
   have st := st.front1
   have st := st.tail
   exact X_env _ kr (X_round k1 (Nat.lt_succ_self _) ⟨(l1, IntKind.wrap .i64 (s1.2 + 1)), a4, c4, m5, hL, rfl, hm, st, r5, r1⟩)
  ·intro hc
   rw [if_neg (not_true hc)] at hr
   refine W_exit ?_
   refine X_then_exit ?_
   obtain rfl := Option.some.inj hr
   have ho := hBu1 _ rfl
   refine X_then_exit ?_
   exact X_env _ kr (K0_u1 _ _ ⟨s1.1, a3, c3, m3, ho, rfl, hm, st, r3⟩)
def slices_Clone_api_Key_api_Key_O (p0 : List (Int × ByteArray × ByteArray)) : Option (List (Int × ByteArray × ByteArray)) := appM 40 p0
set_option maxHeartbeats 4000000 in
set_option maxRecDepth 100000 in
theorem slices_Clone_api_Key_api_Key_own {m : Mem} {own : List Piece} {w : World} {p0 : List (Int × ByteArray × ByteArray)} {a1 : Option Addr} {c1 : Nat} {r : List (Int × ByteArray × ByteArray)} (st : St m (own) w) (r1 : RepS (cPair (cInt .i64) (cPair cStr cStr)) m a1 c1 p0) (hr : slices_Clone_api_Key_api_Key_O p0 = some r) : Calls Tryd.prog 65 #[.slice a1 (List.length p0) c1] w fun e w' => ∃ (a : Option Addr) (k : Nat) (T : List Value) (m' : Mem), e = .returned (.slice a (List.length r) k) ∧ m.le m' ∧ OAS a (List.length r) k 3 T ∧ St m' (opc a (acellsM (fun x : Int × ByteArray × ByteArray => ([.int .i64 x.1, .string x.2.1, .string x.2.2] : List Value)) r T) 29 :: own) w' := by
 unfold slices_Clone_api_Key_api_Key_O at hr
 have hm := m.le_refl
 refine W_calls Tryd.func65 rfl Tryd.ntmps65 [(0, .slice a1 (List.length p0) c1)] kr rfl ?_
 refine W_sr (WO_seg 1 [] kr kr ?_)
 refine WO_et rfl (W_seq ?_)
 refine W_sr (WO_seg 1 [(3, .slice a1 (List.length p0) c1)] kr kr ?_)
 rcases bcases (Option.isNone a1) with hnil | hnil
 ·refine WO_one rfl (One_nileq (d := 4) (t := 23) (t2 := 23) (e := 29) (x := (.tmp 3)) (y := (.const (.slice none 0 0))) true kr rfl (ev (.slice a1 (List.length p0) c1)) kr rfl hnil ?_)
  refine WO_et rfl (W_cond true kr ?_ (fun h => Bool.noConfusion h))
  intro _
  refine W_sr (WO_seg 1 [(2, .slice none 0 0)] kr kr ?_)
  refine WO_et rfl (W_ret ?_)
  refine X_then_ret ?_
  have hp : p0 = [] := by
   cases a1 with
   | none => exact r1.none_nil.1
   | some p => cases hnil
  subst hp
  have hr' : r = [] := by simp [appM] at hr; first | exact hr | exact hr.symm
  subst hr'
  refine X_ret [.tmp 2] [.slice none 0 0] rfl (ResAll.cons (ResAt.tmp kr) ResAll.nil) ?_
  have st := st.nilroom 0 0
  exact ⟨none, 0, [], m, rfl, hm, ⟨Nat.le_refl _, Nat.zero_le _, rfl⟩, st⟩
 ·refine WO_one rfl (One_nileq (d := 4) (t := 23) (t2 := 23) (e := 29) (x := (.tmp 3)) (y := (.const (.slice none 0 0))) false kr rfl (ev (.slice a1 (List.length p0) c1)) kr rfl hnil ?_)
  refine WO_et rfl (W_cond false kr (fun h => Bool.noConfusion h) ?_)
  intro _
  refine W_skip ?_
  refine X_then ?_
  refine W_sr (WO_one rfl (One_buildSlice (d := 5) (t := 23) (e := 29) (len := 0) (parts := #[]) (cPair (cInt .i64) (cPair cStr cStr)) (xs := ([] : List (Int × ByteArray × ByteArray))) [] kr rfl (fun _ => buildEmpty_run (by simp) kr _) rfl rfl st rfl ?_))
  clear st
  intro b1 m1 w1 hle1 st r2
  have hm := Mem.le_trans hm hle1
  have r1 := r1.mono hle1
  refine WO_seg 1 [(6, .slice a1 (List.length p0) c1)] kr kr ?_
  refine WO_one rfl (One_appM (d := 7) (t := 23) (u := 23) (e := 29) (by_ := 40) (x := (.tmp 5)) (y := (.tmp 6)) (c := (cPair (cInt .i64) (cPair cStr cStr))) (f := (fun x : Int × ByteArray × ByteArray => ([.int .i64 x.1, .string x.2.1, .string x.2.2] : List Value))) (a := (some ⟨b1, 0, none⟩)) (fun _ _ _ h => by obtain ⟨_, _, rfl, rfl, ⟨_, _, rfl, rfl, rfl⟩⟩ := h; rfl) (fun _ => rfl) kr rfl (ev (.slice (some ⟨b1, 0, none⟩) 0 0)) (ev (.slice a1 (List.length p0) c1)) st kr (.inl kr) r1.src hr ?_)
  clear st
  intro a2 c2 T2 w2 hs st
  refine WO_seg 1 [(2, .slice a2 (List.length r) c2)] kr kr ?_
  refine WO_et rfl (W_ret ?_)
  refine X_ret [.tmp 2] [.slice a2 (List.length r) c2] rfl (ResAll.cons (ResAt.tmp kr) ResAll.nil) ?_
  exact ⟨a2, c2, T2, m1, rfl, hm, hs, st⟩
def cmp_isNaN_int (N : Nat) (p0 : Int) : Option (Bool) :=
 some (p0 != p0)
set_option maxHeartbeats 4000000 in
set_option maxRecDepth 100000 in
theorem cmp_isNaN_int_ok {N : Nat} {m : Mem} {own : List Piece} {w : World} {p0 : Int} {r : Bool} (st : St m (own) w) (hr : cmp_isNaN_int N p0 = some r) : Calls Tryd.prog 123 #[.int .i64 p0] w fun e w' => ∃ (m' : Mem), e = .returned (.bool r) ∧ m.le m' ∧ St m' (own) w' := by
 unfold cmp_isNaN_int at hr
 have hm := m.le_refl
 refine W_calls Tryd.func123 rfl Tryd.ntmps123 [(0, .int .i64 p0)] kr rfl ?_
 refine W_sr (WO_seg 1 [] kr kr ?_)
 refine WO_et rfl (W_sr ?_)
 refine WO_seg 4 [(2, .bool (p0 != p0))] kr kr ?_
 refine WO_et rfl (W_ret ?_)
 obtain rfl := Option.some.inj hr
 refine X_ret [.tmp 2] [.bool (p0 != p0)] rfl (ResAll.cons (ResAt.tmp kr) ResAll.nil) ?_
 exact ⟨m, rfl, hm, st⟩
def cmp_Compare_int (N : Nat) (p0 : Int) (p1 : Int) : Option (Int) :=
 (cmp_isNaN_int N p0).bind fun y1 => (cmp_isNaN_int N p1).bind fun y2 => if y1 = true then (if y2 = true then (some 0) else (some (-1))) else (if y2 = true then (some 1) else (if (decide (p0 < p1)) = true then (some (-1)) else (if (decide (p0 > p1)) = true then (some 1) else (some 0))))
set_option maxHeartbeats 4000000 in
set_option maxRecDepth 100000 in
theorem cmp_Compare_int_ok {N : Nat} {m : Mem} {own : List Piece} {w : World} {p0 : Int} {p1 : Int} {r : Int} (st : St m (own) w) (hr : cmp_Compare_int N p0 p1 = some r) : Calls Tryd.prog 98 #[.int .i64 p0, .int .i64 p1] w fun e w' => ∃ (m' : Mem), e = .returned (.int .i64 r) ∧ m.le m' ∧ St m' (own) w' := by
 unfold cmp_Compare_int at hr
 have hm := m.le_refl
 refine W_calls Tryd.func98 rfl Tryd.ntmps98 [(0, .int .i64 p0), (1, .int .i64 p1)] kr rfl ?_
 refine W_sr (WO_seg 1 [] kr kr ?_)
 refine WO_et rfl (W_sr ?_)
 refine WO_seg 1 [(7, .int .i64 p0)] kr kr ?_
 replace ⟨y1, hx1, hr⟩ := bindS hr
 refine WO_one rfl (One_fn 8 123 #[.int .i64 p0] kr rfl ?_)
 refine (cmp_isNaN_int_ok st hx1).mono ?_
 clear st
 rintro _ w1 ⟨m1, rfl, hle1, st⟩
 refine ⟨_, rfl, ?_⟩
 have hm := Mem.le_trans hm hle1
 refine WO_seg 1 [(5, .bool y1)] kr kr ?_
 refine WO_et rfl (W_sr ?_)
 refine WO_seg 1 [(9, .int .i64 p1)] kr kr ?_
 replace ⟨y2, hx2, hr⟩ := bindS hr
 refine WO_one rfl (One_fn 10 123 #[.int .i64 p1] kr rfl ?_)
 refine (cmp_isNaN_int_ok st hx2).mono ?_
 clear st
 rintro _ w2 ⟨m2, rfl, hle2, st⟩
 refine ⟨_, rfl, ?_⟩
 have hm := Mem.le_trans hm hle2
 refine WO_seg 1 [(6, .bool y2)] kr kr ?_
 refine WO_et rfl (W_seq ?_)
 refine W_sr (WO_seg 1 [(11, .bool y1)] kr kr ?_)
 refine WO_et rfl (W_cond y1 kr ?_ ?_)
 ·intro hc
  rw [if_pos hc] at hr
  refine W_seq ?_
  refine W_sr (WO_seg 1 [(12, .bool y2)] kr kr ?_)
  refine WO_et rfl (W_cond y2 kr ?_ ?_)
  ·intro hc
   rw [if_pos hc] at hr
   refine W_sr (WO_seg 1 [(4, .int .i64 0)] kr kr ?_)
   refine WO_et rfl (W_ret ?_)
   refine X_then_ret ?_
   refine X_then_ret ?_
   obtain rfl := Option.some.inj hr
   refine X_ret [.tmp 4] [.int .i64 0] rfl (ResAll.cons (ResAt.tmp kr) ResAll.nil) ?_
   exact ⟨m2, rfl, hm, st⟩
  ·intro hc
   rw [if_neg (not_true hc)] at hr
   refine W_skip ?_
   refine X_then ?_
   refine W_sr (WO_seg 1 [(4, .int .i64 (-1))] kr kr ?_)
   refine WO_et rfl (W_ret ?_)
   refine X_then_ret ?_
   obtain rfl := Option.some.inj hr
   refine X_ret [.tmp 4] [.int .i64 (-1)] rfl (ResAll.cons (ResAt.tmp kr) ResAll.nil) ?_
   exact ⟨m2, rfl, hm, st⟩
 ·intro hc
  rw [if_neg (not_true hc)] at hr
  refine W_skip ?_
  refine X_then ?_
  refine W_seq ?_
  refine W_sr (WO_seg 1 [(13, .bool y2)] kr kr ?_)
  refine WO_et rfl (W_cond y2 kr ?_ ?_)
  ·intro hc
   rw [if_pos hc] at hr
   refine W_sr (WO_seg 1 [(4, .int .i64 1)] kr kr ?_)
   refine WO_et rfl (W_ret ?_)
   refine X_then_ret ?_
   obtain rfl := Option.some.inj hr
   refine X_ret [.tmp 4] [.int .i64 1] rfl (ResAll.cons (ResAt.tmp kr) ResAll.nil) ?_
   exact ⟨m2, rfl, hm, st⟩
  ·intro hc
   rw [if_neg (not_true hc)] at hr
   refine W_skip ?_
   refine X_then ?_
   refine W_seq ?_
   refine W_sr (WO_seg 3 [(16, .bool (decide (p0 < p1)))] kr kr ?_)
   refine WO_et rfl (W_cond (decide (p0 < p1)) kr ?_ ?_)
   ·intro hc
    rw [if_pos hc] at hr
    refine W_sr (WO_seg 1 [(4, .int .i64 (-1))] kr kr ?_)
    refine WO_et rfl (W_ret ?_)
    refine X_then_ret ?_
    obtain rfl := Option.some.inj hr
    refine X_ret [.tmp 4] [.int .i64 (-1)] rfl (ResAll.cons (ResAt.tmp kr) ResAll.nil) ?_
    exact ⟨m2, rfl, hm, st⟩
   ·intro hc
    rw [if_neg (not_true hc)] at hr
    refine W_skip ?_
    refine X_then ?_
    refine W_seq ?_
    refine W_sr (WO_seg 3 [(19, .bool (decide (p0 > p1)))] kr kr ?_)
    refine WO_et rfl (W_cond (decide (p0 > p1)) kr ?_ ?_)
    ·intro hc
     rw [if_pos hc] at hr
     refine W_sr (WO_seg 1 [(4, .int .i64 1)] kr kr ?_)
     refine WO_et rfl (W_ret ?_)
     refine X_then_ret ?_
     obtain rfl := Option.some.inj hr
     refine X_ret [.tmp 4] [.int .i64 1] rfl (ResAll.cons (ResAt.tmp kr) ResAll.nil) ?_
     exact ⟨m2, rfl, hm, st⟩
    ·intro hc
     rw [if_neg (not_true hc)] at hr
     refine W_skip ?_
     refine X_then ?_
     refine W_sr (WO_seg 1 [(4, .int .i64 0)] kr kr ?_)
     refine WO_et rfl (W_ret ?_)
     obtain rfl := Option.some.inj hr
     refine X_ret [.tmp 4] [.int .i64 0] rfl (ResAll.cons (ResAt.tmp kr) ResAll.nil) ?_
     exact ⟨m2, rfl, hm, st⟩
def internal_bytealg_CompareString (N : Nat) (p0 : ByteArray) (p1 : ByteArray) : Option (Int) :=
 some (cmpS p0 p1)
set_option maxHeartbeats 4000000 in
set_option maxRecDepth 100000 in
theorem internal_bytealg_CompareString_ok {N : Nat} {m : Mem} {own : List Piece} {w : World} {p0 : ByteArray} {p1 : ByteArray} {r : Int} (st : St m (own) w) (hr : internal_bytealg_CompareString N p0 p1 = some r) : Calls Tryd.prog 124 #[.string p0, .string p1] w fun e w' => ∃ (m' : Mem), e = .returned (.int .i64 r) ∧ m.le m' ∧ St m' (own) w' := by
 unfold internal_bytealg_CompareString at hr
 have hm := m.le_refl
 refine W_calls Tryd.func124 rfl Tryd.ntmps124 [(0, .string p0), (1, .string p1)] kr rfl ?_
 refine W_sr (WO_seg 1 [] kr kr ?_)
 refine WO_et rfl (W_sr ?_)
 refine WO_seg 2 [(5, .string p0), (6, .string p1)] kr kr ?_
 refine WO_one rfl (One_cmpStr (d := 7) (f := 147) (x := (.tmp 5)) (y := (.tmp 6)) (ts := #[9, 9]) kr rfl (ev (.string p0)) (ev (.string p1)) Tryd.func147 kr kr ?_)
 refine WO_seg 1 [(4, .int .i64 (cmpS p0 p1))] kr kr ?_
 refine WO_et rfl (W_ret ?_)
 obtain rfl := Option.some.inj hr
 refine X_ret [.tmp 4] [.int .i64 (cmpS p0 p1)] rfl (ResAll.cons (ResAt.tmp kr) ResAll.nil) ?_
 exact ⟨m, rfl, hm, st⟩
def strings_Compare (N : Nat) (p0 : ByteArray) (p1 : ByteArray) : Option (Int) :=
 (internal_bytealg_CompareString N p0 p1).bind fun y1 => some y1
set_option maxHeartbeats 4000000 in
set_option maxRecDepth 100000 in
theorem strings_Compare_ok {N : Nat} {m : Mem} {own : List Piece} {w : World} {p0 : ByteArray} {p1 : ByteArray} {r : Int} (st : St m (own) w) (hr : strings_Compare N p0 p1 = some r) : Calls Tryd.prog 99 #[.string p0, .string p1] w fun e w' => ∃ (m' : Mem), e = .returned (.int .i64 r) ∧ m.le m' ∧ St m' (own) w' := by
 unfold strings_Compare at hr
 have hm := m.le_refl
 refine W_calls Tryd.func99 rfl Tryd.ntmps99 [(0, .string p0), (1, .string p1)] kr rfl ?_
 refine W_sr (WO_seg 1 [] kr kr ?_)
 refine WO_et rfl (W_sr ?_)
 refine WO_seg 2 [(5, .string p0), (6, .string p1)] kr kr ?_
 replace ⟨y1, hx1, hr⟩ := bindS hr
 refine WO_one rfl (One_fn 7 124 #[.string p0, .string p1] kr rfl ?_)
 refine (internal_bytealg_CompareString_ok st hx1).mono ?_
 clear st
 rintro _ w1 ⟨m1, rfl, hle1, st⟩
 refine ⟨_, rfl, ?_⟩
 have hm := Mem.le_trans hm hle1
 refine WO_seg 1 [(4, .int .i64 y1)] kr kr ?_
 refine WO_et rfl (W_ret ?_)
 obtain rfl := Option.some.inj hr
 refine X_ret [.tmp 4] [.int .i64 y1] rfl (ResAll.cons (ResAt.tmp kr) ResAll.nil) ?_
 exact ⟨m1, rfl, hm, st⟩
def cmp_Or_int_L1 (N : Nat) (p0 : List Int) (s1 : Int) : Option ((Int) ⊕ ((Unit) ⊕ (Int))) :=
 if (decide (s1 < (List.length p0 : Int))) = true then ((idx p0 s1).bind fun x1 => if (x1 != 0) = true then (some (.inr (.inr (x1)))) else (some (.inl (IntKind.wrap .i64 (s1 + 1))))) else (some (.inr (.inl ())))
def cmp_Or_int (N : Nat) (p0 : List Int) : Option (Int) :=
 (loopM (cmp_Or_int_L1 N p0) N 0).bind fun out1 => (match out1 with | .inl o1 => some 0 | .inr (z) => some z)
set_option maxHeartbeats 4000000 in
set_option maxRecDepth 100000 in
theorem cmp_Or_int_ok {N : Nat} {m : Mem} {own : List Piece} {w : World} {p0 : List Int} {a1 : Option Addr} {c1 : Nat} {r : Int} (st : St m (own) w) (r1 : RepS (cInt .i64) m a1 c1 p0) (hr : cmp_Or_int N p0 = some r) : Calls Tryd.prog 97 #[.slice a1 (List.length p0) c1] w fun e w' => ∃ (m' : Mem), e = .returned (.int .i64 r) ∧ m.le m' ∧ St m' (own) w' := by
 unfold cmp_Or_int at hr
 have hm := m.le_refl
 refine W_calls Tryd.func97 rfl Tryd.ntmps97 [(0, .slice a1 (List.length p0) c1)] kr rfl ?_
 refine W_sr (WO_seg 1 [] kr kr ?_)
 refine WO_et rfl (W_sr ?_)
 refine WO_seg 1 [(3, .int .i64 0)] kr kr ?_
 refine WO_et rfl (W_seq ?_)
 refine W_sr (WO_seg 3 [(6, .slice a1 (List.length p0) c1), (7, .int .i64 (List.length p0 : Int)), (8, .int .i64 0)] kr kr ?_)
 refine WO_et rfl (W_block ?_)
 replace ⟨out1, hr, hrKu1⟩ := bindS hr
 refine W_cut (.exit 0) (fun L' w' => ∃ (o1 : Unit) (m1 : Mem), (.inl o1) = out1 ∧ L' = [(3, .int .i64 0)] ∧ m.le m1 ∧ St m1 (own) w') ?_ ?_
 ·clear hr st
  rintro _ w1 ⟨o1, m1, rfl, rfl, hm, st⟩
  have hr := hrKu1
  clear hrKu1
  dsimp only at hr
  refine X_block_eq ?_
  refine X_then ?_
  refine W_sr (WO_seg 2 [(2, .int .i64 0)] kr kr ?_)
  refine WO_et rfl (W_ret ?_)
  obtain rfl := Option.some.inj hr
  refine X_ret [.tmp 2] [.int .i64 0] rfl (ResAll.cons (ResAt.tmp kr) ResAll.nil) ?_
  exact ⟨m1, rfl, hm, st⟩
 intro K0_u1
 refine W_env _ kr (W_loop (fun k1 L' w' => ∃ (s1 : Int) (m2 : Mem), loopM (cmp_Or_int_L1 N p0) k1 s1 = some out1 ∧ L' = [(3, .int .i64 0), (6, .slice a1 (List.length p0) c1), (7, .int .i64 (List.length p0 : Int)), (8, .int .i64 s1)] ∧ m.le m2 ∧ St m2 (own) w' ∧ RepS (cInt .i64) m2 a1 c1 p0) N ⟨0, m, hr, rfl, hm, st, r1⟩ ?_)
 clear st hr
 rintro k1 _ w2 ⟨s1, m2, hL, rfl, hm, st, r1⟩
 rcases k1 with _ | k1
 ·exact loopM_zero hL
 ·obtain ⟨qu1, hr, hSu1, hBu1⟩ := loopM_succ hL
  clear hL
  unfold cmp_Or_int_L1 at hr
  refine W_sr (WO_seg 1 [(9, .bool (decide (s1 < (List.length p0 : Int))))] kr kr ?_)
  refine WO_et rfl (W_seq ?_)
  refine W_cond (decide (s1 < (List.length p0 : Int))) kr ?_ ?_
  ·intro hc
   rw [if_pos hc] at hr
   refine W_skip ?_
   refine X_then ?_
   refine W_seq ?_
   refine W_block ?_
   refine W_sr ?_
   replace ⟨x1, hx1, hr⟩ := bindS hr
   refine WO_one rfl (One_index (d := 10) (t := 22) (e := 3) (x := (.tmp 6)) (y := (.tmp 8)) (cInt .i64) kr rfl (ev (.slice a1 (List.length p0) c1)) (ev (.int .i64 s1)) kr r1 hx1 ?_)
   rintro b1 f1 cs1 rfl hq1
   refine WO_one rfl (One_load_row (d := 11) (t := 3) (x := (.tmp 10)) (.int .i64 x1) kr rfl (ev (.pointer (some ⟨b1, f1, none⟩))) st hq1 kr ?_)
   refine WO_seg 1 [(5, .int .i64 x1)] kr kr ?_
   refine WO_et rfl (W_sr ?_)
   refine WO_seg 3 [(14, .bool (x1 != 0))] kr kr ?_
   refine WO_et rfl (W_cond (x1 != 0) kr ?_ ?_)
   ·intro hc
    rw [if_pos hc] at hr
    refine W_sr (WO_seg 2 [(2, .int .i64 x1)] kr kr ?_)
    refine WO_et rfl (W_ret ?_)
    refine X_block_ret ?_
    refine X_then_ret ?_
    obtain rfl := Option.some.inj hr
    have ho := hBu1 _ rfl
    subst ho
    have hr := hrKu1
    dsimp only at hr
    refine X_then_ret ?_
    refine X_block_ret ?_
    refine X_then_ret ?_
    obtain rfl := Option.some.inj hr
    refine X_ret [.tmp 2] [.int .i64 x1] rfl (ResAll.cons (ResAt.tmp kr) ResAll.nil) ?_
    exact ⟨m2, rfl, hm, st⟩
   ·intro hc
    rw [if_neg (not_true hc)] at hr
    refine W_skip ?_
    refine X_block ?_
    refine X_then ?_
    refine W_region ?_
    refine WO_seg 2 [(8, .int .i64 (IntKind.wrap .i64 (s1 + 1)))] kr kr ?_
    refine WO_end rfl ?_
    obtain rfl := Option.some.inj hr
    have hL := hSu1 _ rfl
    exact X_env _ kr (X_round k1 (Nat.lt_succ_self _) ⟨IntKind.wrap .i64 (s1 + 1), m2, hL, rfl, hm, st, r1⟩)
  ·intro hc
   rw [if_neg (not_true hc)] at hr
   refine W_exit ?_
   refine X_then_exit ?_
   obtain rfl := Option.some.inj hr
   have ho := hBu1 _ rfl
   refine X_then_exit ?_
   exact X_env _ kr (K0_u1 _ _ ⟨(), m2, ho, rfl, hm, st⟩)
def fact_Compare (N : Nat) (p0 : Int × ByteArray × ByteArray) (p1 : Int × ByteArray × ByteArray) : Option (Int) :=
 if ((p0.1 == p1.1) && ((p0.2.1.toList == p1.2.1.toList) && ((p0.2.2.toList == p1.2.2.toList) && true))) = true then (some 0) else ((cmp_Compare_int N p0.1 p1.1).bind fun y1 => (strings_Compare N p0.2.1 p1.2.1).bind fun y2 => (strings_Compare N p0.2.2 p1.2.2).bind fun y3 => (cmp_Or_int N ([y1, y2, y3])).bind fun y4 => some y4)
set_option maxHeartbeats 4000000 in
set_option maxRecDepth 100000 in
theorem fact_Compare_ok {N : Nat} {m : Mem} {own : List Piece} {w : World} {p0 : Int × ByteArray × ByteArray} {p1 : Int × ByteArray × ByteArray} {r : Int} (st : St m (own) w) (hr : fact_Compare N p0 p1 = some r) : Calls Tryd.prog 67 #[.agg #[.int .i64 p0.1, .string p0.2.1, .string p0.2.2], .agg #[.int .i64 p1.1, .string p1.2.1, .string p1.2.2]] w fun e w' => ∃ (m' : Mem), e = .returned (.int .i64 r) ∧ m.le m' ∧ St m' (own) w' := by
 unfold fact_Compare at hr
 have hm := m.le_refl
 refine W_calls Tryd.func67 rfl Tryd.ntmps67 [(0, .agg #[.int .i64 p0.1, .string p0.2.1, .string p0.2.2]), (1, .agg #[.int .i64 p1.1, .string p1.2.1, .string p1.2.2])] kr rfl ?_
 refine W_sr (WO_one rfl (One_box (d := 2) (e := 29) (x := (.tmp 0)) (.agg #[.int .i64 p0.1, .string p0.2.1, .string p0.2.2]) kr rfl kr st ?_))
 clear st
 intro b1 m1 w1 hle1 st hb1
 have hm := Mem.le_trans hm hle1
 refine WO_one rfl (One_box (d := 3) (e := 29) (x := (.tmp 1)) (.agg #[.int .i64 p1.1, .string p1.2.1, .string p1.2.2]) kr rfl kr st ?_)
 clear st
 intro b2 m2 w2 hle2 st hb2
 have hm := Mem.le_trans hm hle2
 have hb1 := hb1.mono hle2
 refine WO_seg 1 [] kr kr ?_
 refine WO_et rfl (W_seq ?_)
 refine W_sr (WO_one rfl (One_load_row (d := 5) (t := 29) (x := (.tmp 2)) (.agg #[.int .i64 p0.1, .string p0.2.1, .string p0.2.2]) kr rfl (ev (.pointer (some ⟨b1, 0, none⟩))) st hb1 kr ?_))
 refine WO_one rfl (One_load_row (d := 6) (t := 29) (x := (.tmp 3)) (.agg #[.int .i64 p1.1, .string p1.2.1, .string p1.2.2]) kr rfl (ev (.pointer (some ⟨b2, 0, none⟩))) st hb2 kr ?_)
 refine WO_one rfl (One_eqAgg (d := 7) (t := 29) (t2 := 29) (x := (.tmp 5)) (y := (.tmp 6)) (xs := #[.int .i64 p0.1, .string p0.2.1, .string p0.2.2]) (ys := #[.int .i64 p1.1, .string p1.2.1, .string p1.2.2]) ((p0.1 == p1.1) && ((p0.2.1.toList == p1.2.1.toList) && ((p0.2.2.toList == p1.2.2.toList) && true))) kr rfl (ev (.agg #[.int .i64 p0.1, .string p0.2.1, .string p0.2.2])) (ev (.agg #[.int .i64 p1.1, .string p1.2.1, .string p1.2.2])) kr kr kr ?_)
 refine WO_et rfl (W_cond ((p0.1 == p1.1) && ((p0.2.1.toList == p1.2.1.toList) && ((p0.2.2.toList == p1.2.2.toList) && true))) kr ?_ ?_)
 ·intro hc
  rw [if_pos hc] at hr
  refine W_sr (WO_seg 1 [(4, .int .i64 0)] kr kr ?_)
  refine WO_et rfl (W_ret ?_)
  refine X_then_ret ?_
  obtain rfl := Option.some.inj hr
  refine X_ret [.tmp 4] [.int .i64 0] rfl (ResAll.cons (ResAt.tmp kr) ResAll.nil) ?_
  exact ⟨m2, rfl, hm, st⟩
 ·intro hc
  rw [if_neg (not_true hc)] at hr
  refine W_skip ?_
  refine X_then ?_
  refine W_seq ?_
  refine W_draw [(18, fun w' => Inv m2 w' ∧ True)] kr st ?_
  clear st
  intro w3 _ st
  have hmS1 := m2.le_refl
  refine ⟨⟨.inr ⟨Inv.anti st.inv hmS1, trivial⟩, trivial⟩, ?_⟩
  refine WA_pure 0 8 (.pointer (some ⟨b1, 0, none⟩)) kr rfl kr (.head _) (QP_then QP_body) ?_
  refine WA_load_row (t := 3) (x := (.tmp 8)) 1 9 (.int .i64 p0.1) kr rfl kr (.head _) (QP_then QP_body) (fun _ h => h.1) (ev (.pointer (some ⟨b1, 0, none⟩))) hb1 kr ?_
  refine WA_pure 2 10 (.pointer (some ⟨b2, 0, none⟩)) kr rfl kr (.head _) (QP_then QP_body) ?_
  refine WA_load_row (t := 3) (x := (.tmp 10)) 3 11 (.int .i64 p1.1) kr rfl kr (.head _) (QP_then QP_body) (fun _ h => h.1) (ev (.pointer (some ⟨b2, 0, none⟩))) hb2 kr ?_
  refine WA_pure 5 13 (.pointer (some ⟨b1, 1, none⟩)) kr rfl kr (.head _) (QP_then QP_body) ?_
  refine WA_load_row (t := 9) (x := (.tmp 13)) 6 14 (.string p0.2.1) kr rfl kr (.head _) (QP_then QP_body) (fun _ h => h.1) (ev (.pointer (some ⟨b1, 1, none⟩))) (hb1.drop 1) kr ?_
  refine WA_pure 7 15 (.pointer (some ⟨b2, 1, none⟩)) kr rfl kr (.head _) (QP_then QP_body) ?_
  refine WA_load_row (t := 9) (x := (.tmp 15)) 8 16 (.string p1.2.1) kr rfl kr (.head _) (QP_then QP_body) (fun _ h => h.1) (ev (.pointer (some ⟨b2, 1, none⟩))) (hb2.drop 1) kr ?_
  refine WA_pure 10 18 (.pointer (some ⟨b1, 2, none⟩)) kr rfl kr (.head _) (QP_then QP_body) ?_
  refine WA_load_row (t := 9) (x := (.tmp 18)) 11 19 (.string p0.2.2) kr rfl kr (.head _) (QP_then QP_body) (fun _ h => h.1) (ev (.pointer (some ⟨b1, 2, none⟩))) (hb1.drop 2) kr ?_
  refine WA_pure 12 20 (.pointer (some ⟨b2, 2, none⟩)) kr rfl kr (.head _) (QP_then QP_body) ?_
  refine WA_load_row (t := 9) (x := (.tmp 20)) 13 21 (.string p1.2.2) kr rfl kr (.head _) (QP_then QP_body) (fun _ h => h.1) (ev (.pointer (some ⟨b2, 2, none⟩))) (hb2.drop 2) kr ?_
  replace ⟨y1, hx1, hr⟩ := bindS hr
  refine WA_one 4 kr  (One_fn 12 98 #[.int .i64 p0.1, .int .i64 p1.1] kr rfl ?_)
  refine (cmp_Compare_int_ok st hx1).mono ?_
  clear st
  rintro _ w4 ⟨m3, rfl, hle3, st⟩
  refine ⟨_, rfl, ?_⟩
  have hm := Mem.le_trans hm hle3
  have hb1 := hb1.mono hle3
  have hb2 := hb2.mono hle3
  have hmS1 := Mem.le_trans hmS1 hle3
  refine ⟨⟨.inr ⟨Inv.anti st.inv hmS1, trivial⟩, trivial⟩, ?_⟩
  replace ⟨y2, hx2, hr⟩ := bindS hr
  refine WA_one 9 kr  (One_fn 17 99 #[.string p0.2.1, .string p1.2.1] kr rfl ?_)
  refine (strings_Compare_ok st hx2).mono ?_
  clear st
  rintro _ w5 ⟨m4, rfl, hle4, st⟩
  refine ⟨_, rfl, ?_⟩
  have hm := Mem.le_trans hm hle4
  have hb1 := hb1.mono hle4
  have hb2 := hb2.mono hle4
  have hmS1 := Mem.le_trans hmS1 hle4
  refine ⟨⟨.inr ⟨Inv.anti st.inv hmS1, trivial⟩, trivial⟩, ?_⟩
  replace ⟨y3, hx3, hr⟩ := bindS hr
  refine WA_one 14 kr  (One_fn 22 99 #[.string p0.2.2, .string p1.2.2] kr rfl ?_)
  refine (strings_Compare_ok st hx3).mono ?_
  clear st
  rintro _ w6 ⟨m5, rfl, hle5, st⟩
  refine ⟨_, rfl, ?_⟩
  have hm := Mem.le_trans hm hle5
  have hb1 := hb1.mono hle5
  have hb2 := hb2.mono hle5
  have hmS1 := Mem.le_trans hmS1 hle5
  refine ⟨⟨.inr ⟨Inv.anti st.inv hmS1, trivial⟩, trivial⟩, ?_⟩
  refine WA_one 15 kr  (One_buildSlice (d := 23) (t := 22) (e := 3) (len := 3) (parts := #[(0, (.tmp 12)), (1, (.tmp 17)), (2, (.tmp 22))]) (cInt .i64) (xs := [y1, y2, y3]) [.int .i64 y1, .int .i64 y2, .int .i64 y3] kr rfl (fun _ => buildCells_run kr _) rfl rfl st ⟨[.int .i64 y1], _, rfl, rfl, ⟨[.int .i64 y2], _, rfl, rfl, ⟨[.int .i64 y3], _, rfl, rfl, rfl⟩⟩⟩ ?_)
  clear st
  intro b3 m6 w7 hle6 st r1
  have hm := Mem.le_trans hm hle6
  have hb1 := hb1.mono hle6
  have hb2 := hb2.mono hle6
  have hmS1 := Mem.le_trans hmS1 hle6
  refine ⟨⟨.inr ⟨Inv.anti st.inv hmS1, trivial⟩, trivial⟩, ?_⟩
  replace ⟨y4, hx4, hr⟩ := bindS hr
  refine WA_one 16 kr  (One_fn 24 97 #[.slice (some ⟨b3, 0, none⟩) (List.length ([y1, y2, y3])) 3] kr rfl ?_)
  refine (cmp_Or_int_ok st r1 hx4).mono ?_
  clear st
  rintro _ w8 ⟨m7, rfl, hle7, st⟩
  refine ⟨_, rfl, ?_⟩
  have hm := Mem.le_trans hm hle7
  have hb1 := hb1.mono hle7
  have hb2 := hb2.mono hle7
  have r1 := r1.mono hle7
  have hmS1 := Mem.le_trans hmS1 hle7
  refine ⟨⟨.inr ⟨Inv.anti st.inv hmS1, trivial⟩, trivial⟩, ?_⟩
  refine WA_pure 17 4 (.int .i64 y4) kr rfl kr (.head _) (QP_then QP_body) ?_
  refine WA_done kr ?_
  have st := st.tail
  refine X_then ?_
  refine W_ret ?_
  obtain rfl := Option.some.inj hr
  refine X_ret [.tmp 4] [.int .i64 y4] rfl (ResAll.cons (ResAt.tmp kr) ResAll.nil) ?_
  exact ⟨m7, rfl, hm, st⟩
def sortLay66_ren : Go.Shelf.Ren := ⟨fun | 6 => 66 | 15 => 96 | 14 => 95 | 28 => 121 | 29 => 122 | 20 => 113 | 21 => 114 | 22 => 115 | 23 => 116 | 24 => 117 | 25 => 118 | 26 => 119 | 27 => 120 | 46 => 142 | 47 => 143 | 48 => 144 | 49 => 145 | 50 => 146 | 57 => 162 | n => n, fun | 22 => 23 | 24 => 29 | 25 => 113 | 3 => 3 | 39 => 147 | 0 => 0 | 53 => 182 | 55 => 184 | 4 => 4 | 46 => 175 | 45 => 174 | 50 => 179 | 5 => 5 | 9 => 9 | 66 => 198 | 70 => 202 | 76 => 212 | 77 => 83 | n => n, fun | n => n⟩
theorem sortLay66 : Go.Proofs.SlLaysF0.n6 Tryd.prog sortLay66_ren where
 mixed := kr
 f6 := ⟨Tryd.f66.name, kr, Tryd.func66.trans (congrArg some kr)⟩
 f14 := ⟨Tryd.f95.name, kr, Tryd.func95.trans (congrArg some kr)⟩
 f15 := Tryd.func96.trans (congrArg some kr)
 f20 := ⟨Tryd.f113.name, kr, Tryd.func113.trans (congrArg some kr)⟩
 f21 := ⟨Tryd.f114.name, kr, Tryd.func114.trans (congrArg some kr)⟩
 f22 := ⟨Tryd.f115.name, kr, Tryd.func115.trans (congrArg some kr)⟩
 f23 := ⟨Tryd.f116.name, kr, Tryd.func116.trans (congrArg some kr)⟩
 f24 := ⟨Tryd.f117.name, kr, Tryd.func117.trans (congrArg some kr)⟩
 f25 := ⟨Tryd.f118.name, kr, Tryd.func118.trans (congrArg some kr)⟩
 f26 := ⟨Tryd.f119.name, kr, Tryd.func119.trans (congrArg some kr)⟩
 f27 := ⟨Tryd.f120.name, kr, Tryd.func120.trans (congrArg some kr)⟩
 f28 := Tryd.func121.trans (congrArg some kr)
 f29 := Tryd.func122.trans (congrArg some kr)
 f46 := ⟨Tryd.f142.name, kr, Tryd.func142.trans (congrArg some kr)⟩
 f47 := Tryd.func143.trans (congrArg some kr)
 f48 := Tryd.func144.trans (congrArg some kr)
 f49 := ⟨Tryd.f145.name, kr, Tryd.func145.trans (congrArg some kr)⟩
 f50 := ⟨Tryd.f146.name, kr, Tryd.func146.trans (congrArg some kr)⟩
 f57 := ⟨Tryd.f162.name, kr, Tryd.func162.trans (congrArg some kr)⟩
 t0 := Tryd.underlying0
 a0 := Tryd.isAgg0
 z0 := Tryd.sizeOf0
 v0 := Tryd.zeroValue0
 t3 := Tryd.underlying3
 a3 := Tryd.isAgg3
 z3 := Tryd.sizeOf3
 v3 := Tryd.zeroValue3
 t4 := Tryd.underlying4
 a4 := Tryd.isAgg4
 z4 := Tryd.sizeOf4
 v4 := Tryd.zeroValue4
 t5 := Tryd.underlying5
 a5 := Tryd.isAgg5
 z5 := Tryd.sizeOf5
 v5 := Tryd.zeroValue5
 t9 := Tryd.underlying9
 a9 := Tryd.isAgg9
 z9 := Tryd.sizeOf9
 v9 := Tryd.zeroValue9
 t22 := Tryd.underlying23
 a22 := Tryd.isAgg23
 z22 := Tryd.sizeOf23
 v22 := Tryd.zeroValue23
 t25 := Tryd.underlying113
 a25 := Tryd.isAgg113
 z25 := Tryd.sizeOf113
 v25 := Tryd.zeroValue113
 t39 := Tryd.underlying147
 a39 := Tryd.isAgg147
 z39 := Tryd.sizeOf147
 v39 := Tryd.zeroValue147
 t45 := Tryd.underlying174
 a45 := Tryd.isAgg174
 z45 := Tryd.sizeOf174
 v45 := Tryd.zeroValue174
 t46 := Tryd.underlying175
 a46 := Tryd.isAgg175
 z46 := Tryd.sizeOf175
 v46 := Tryd.zeroValue175
 t50 := Tryd.underlying179
 a50 := Tryd.isAgg179
 z50 := Tryd.sizeOf179
 v50 := Tryd.zeroValue179
 t53 := Tryd.underlying182
 a53 := Tryd.isAgg182
 z53 := Tryd.sizeOf182
 v53 := Tryd.zeroValue182
 t55 := Tryd.underlying184
 a55 := Tryd.isAgg184
 z55 := Tryd.sizeOf184
 v55 := Tryd.zeroValue184
 t66 := Tryd.underlying198
 a66 := Tryd.isAgg198
 z66 := Tryd.sizeOf198
 v66 := Tryd.zeroValue198
 t70 := Tryd.underlying202
 a70 := Tryd.isAgg202
 z70 := Tryd.sizeOf202
 v70 := Tryd.zeroValue202
 t76 := Tryd.underlying212
 a76 := Tryd.isAgg212
 z76 := Tryd.sizeOf212
 v76 := Tryd.zeroValue212
 t77 := Tryd.underlying83
 a77 := Tryd.isAgg83
 z77 := Tryd.sizeOf83
 v77 := Tryd.zeroValue83
theorem cmp_Compare_T {N : Nat} (x y : Int) : cmp_Compare_int N x y = some (cmpI x y) := by
 have h : ∀ z : Int, cmp_isNaN_int N z = some false := fun z => by simp [cmp_isNaN_int]
 simp only [cmp_Compare_int, h, Option.bind_some, cmpI]
 by_cases h1 : x < y
 ·simp [h1]
 ·by_cases h2 : x > y
  ·simp [h1, h2]
  ·simp [h1, h2]
theorem strings_Compare_T {N : Nat} (x y : ByteArray) : strings_Compare N x y = some (cmpS x y) := by simp [strings_Compare, internal_bytealg_CompareString]
theorem cmp_Or_T {N : Nat} (hN : 10 ≤ N) (a b c : Int) : cmp_Or_int N [a, b, c] = some (if a ≠ 0 then a else if b ≠ 0 then b else c) := by
 obtain ⟨k, rfl⟩ : ∃ k, N = k + 4 := ⟨N - 4, by omega⟩
 have w1 : IntKind.wrap .i64 1 = 1 := by decide
 have w2 : IntKind.wrap .i64 2 = 2 := by decide
 have w3 : IntKind.wrap .i64 3 = 3 := by decide
 have i0 : idx [a, b, c] 0 = some a := rfl
 have i1 : idx [a, b, c] 1 = some b := rfl
 have i2 : idx [a, b, c] 2 = some c := rfl
 simp only [cmp_Or_int, loopM, cmp_Or_int_L1, List.length_cons, List.length_nil, i0, Option.bind_some]
 by_cases ha : a = 0
 ·subst ha
  by_cases hb : b = 0
  ·subst hb
   by_cases hc : c = 0
   ·subst hc; simp [w1, w2, w3, i1, i2]
   ·simp [w1, w2, i1, i2, hc]
  ·simp [w1, i1, hb]
 ·simp [ha]
theorem fact_Compare_T {N : Nat} (hN : 10 ≤ N) (x y : Int × ByteArray × ByteArray) : fact_Compare N x y = some (lexC cmpI (lexC cmpS cmpS) x y) := by
 have hl : Lin (lexC cmpI (lexC cmpS cmpS)) := lexC_lin cmpI_lin (lexC_lin cmpS_lin cmpS_lin)
 simp only [fact_Compare, cmp_Compare_T, strings_Compare_T, cmp_Or_T hN, Option.bind_some]
 by_cases h : x = y
 ·rw [if_pos (by subst h; simp), (hl.zero x y).2 h]
 ·split
  ·rename_i g
   simp only [Bool.and_eq_true, beq_iff_eq, and_true] at g
   have bt : ∀ {a b : ByteArray}, a.toList = b.toList → a = b := fun {a b} e => by
    rw [ByteArray.toList_eq, ByteArray.toList_eq] at e
    exact Go.WideShapes.bytes_inj e
   exact absurd (Prod.ext g.1 (Prod.ext (bt g.2.1) (bt g.2.2))) h
  ·rfl
def slices_SortFunc_api_Key_api_Key_S_fact_Compare (N : Nat) (l : List (Int × ByteArray × ByteArray)) : Option (List (Int × ByteArray × ByteArray)) := if 10 ≤ N ∧ l.length < 4611686018427387904 then some (l.mergeSort fun x y => !(Go.Proofs.ltOf (lexC cmpI (lexC cmpS cmpS)) y x)) else none
theorem slices_SortFunc_api_Key_api_Key_len_fact_Compare {N : Nat} {l r : List (Int × ByteArray × ByteArray)} (h : slices_SortFunc_api_Key_api_Key_S_fact_Compare N l = some r) : r.length = l.length := by
 unfold slices_SortFunc_api_Key_api_Key_S_fact_Compare at h
 split at h
 ·simp only [Option.some.injEq] at h; subst h; simp
 ·cases h
theorem slices_SortFunc_api_Key_api_Key_own_fact_Compare {N : Nat} {m : Mem} {own : List Piece} {w : World} {a : Option Addr} {nn cc : Nat} {T : List Value} {l r : List (Int × ByteArray × ByteArray)} {e : TypeId} (st : St m (opc a (acellsM (fun x : Int × ByteArray × ByteArray => ([.int .i64 x.1, .string x.2.1, .string x.2.2] : List Value)) l T) e :: own) w) (hs : OAS a nn cc 3 T) (hn : List.length l = nn) (h : slices_SortFunc_api_Key_api_Key_S_fact_Compare N l = some r) :
  Calls Tryd.prog 66 #[.slice a nn cc, .func (.func 67) #[] #[]] w fun e' w' => e' = .returned (.tuple #[]) ∧ St m (opc a (acellsM (fun x : Int × ByteArray × ByteArray => ([.int .i64 x.1, .string x.2.1, .string x.2.2] : List Value)) r T) e :: own) w' := by
 unfold slices_SortFunc_api_Key_api_Key_S_fact_Compare at h
 split at h
 ·rename_i hb
  obtain ⟨hN, hlen⟩ := hb
  simp only [Option.some.injEq] at h; subst h; subst hn
  have hl : Lin (lexC cmpI (lexC cmpS cmpS)) := lexC_lin cmpI_lin (lexC_lin cmpS_lin cmpS_lin)
  have := Calls_sortK (f := (fun x : Int × ByteArray × ByteArray => ([.int .i64 x.1, .string x.2.1, .string x.2.2] : List Value))) (k := 3) sortLay66 Tryd.isAgg29 Tryd.sizeOf29 (fun _ => rfl) (fun _ _ hv => by simp only [List.mem_cons, List.not_mem_nil, or_false] at hv; rcases hv with rfl | rfl | rfl <;> rfl) (lexC cmpI (lexC cmpS cmpS)) hl.swo hl.total 67 (enters_of Tryd.func67 kr rfl) (fun x y W => by
   refine (fact_Compare_ok (snap_st W) (fact_Compare_T hN x y)).mono fun e' w' h => ?_
   obtain ⟨m', h1, h2, h3⟩ := h
   exact ⟨m', h1, h2, h3⟩) st hs hlen
  exact this
 ·cases h
def fact_Set_L2 (N : Nat) (y2 : List (Int × ByteArray × ByteArray)) (s1 : Int) (s2 : Int × Int × (List (Int × ByteArray × ByteArray))) : Option ((Int × Int × (List (Int × ByteArray × ByteArray))) ⊕ ((Int × (List (Int × ByteArray × ByteArray))))) :=
 if (decide (s2.2.1 < ((Int.toNat (List.length y2 : Int) - Int.toNat s1 : Nat) : Int))) = true then (((idx (List.drop (Int.toNat s1) (List.take (Int.toNat (List.length y2 : Int)) s2.2.2)) s2.2.1).bind fun x3 => (idx (List.drop (Int.toNat s1) (List.take (Int.toNat (List.length y2 : Int)) s2.2.2)) (IntKind.wrap .i64 (s2.2.1 - 1))).bind fun x4 => if (!((x3.1 == x4.1) && ((x3.2.1.toList == x4.2.1.toList) && ((x3.2.2.toList == x4.2.2.toList) && true)))) = true then ((idx (List.drop (Int.toNat s1) (List.take (Int.toNat (List.length y2 : Int)) s2.2.2)) s2.2.1).bind fun x5 => (idx s2.2.2 s2.1).bind fun x6 => some (IntKind.wrap .i64 (s2.1 + 1), List.set s2.2.2 (Int.toNat s2.1) (x5.1, x5.2.1, x5.2.2))) else (some (s2.1, s2.2.2)) : Option (Int × (List (Int × ByteArray × ByteArray)))).bind fun o4 => some (.inl (o4.1, IntKind.wrap .i64 (s2.2.1 + 1), o4.2))) else (some (.inr (s2.1, s2.2.2)))
def fact_Set_L1 (N : Nat) (y1 : List (Int × ByteArray × ByteArray)) (y2 : List (Int × ByteArray × ByteArray)) (s1 : Int) : Option ((Int) ⊕ ((Unit) ⊕ ((List (Int × ByteArray × ByteArray))))) :=
 if (decide (s1 < ((List.length y1) : Int))) = true then ((idx y2 s1).bind fun x1 => (idx y2 (IntKind.wrap .i64 (s1 - 1))).bind fun x2 => if ((x1.1 == x2.1) && ((x1.2.1.toList == x2.2.1.toList) && ((x1.2.2.toList == x2.2.2.toList) && true))) = true then ((chkS y2 s1 (List.length y2 : Int)).bind fun u3 => (loopM (fact_Set_L2 N y2 s1) N (s1, 1, y2)).bind fun o3 => (chkS o3.2 o3.1 (List.length o3.2 : Int)).bind fun u6 => (clearM o3.2 o3.1 (0, (⟨#[]⟩ : ByteArray), (⟨#[]⟩ : ByteArray))).bind fun l1 => (chkS l1 0 o3.1).bind fun u7 => some (.inr (.inr (List.take (Int.toNat o3.1) l1)))) else (some (.inl (IntKind.wrap .i64 (s1 + 1))))) else (some (.inr (.inl ())))
def fact_Set (N : Nat) (p0 : List (Int × ByteArray × ByteArray)) : Option (List (Int × ByteArray × ByteArray)) :=
 (slices_Clone_api_Key_api_Key_O p0).bind fun y1 => (slices_SortFunc_api_Key_api_Key_S_fact_Compare N y1).bind fun y2 => (if (decide (((List.length y1) : Int) < 2)) = true then (some y2) else ((loopM (fact_Set_L1 N y1 y2) N 1).bind fun out1 => (match out1 with | .inl o2 => some y2 | .inr (z) => some z)) : Option ((List (Int × ByteArray × ByteArray)))).bind fun o1 => some o1
set_option maxHeartbeats 4000000 in
set_option maxRecDepth 100000 in
theorem fact_Set_ok {N : Nat} {m : Mem} {own : List Piece} {w : World} {p0 : List (Int × ByteArray × ByteArray)} {a1 : Option Addr} {c1 : Nat} {r : List (Int × ByteArray × ByteArray)} (st : St m (own) w) (r1 : RepS (cPair (cInt .i64) (cPair cStr cStr)) m a1 c1 p0) (hr : fact_Set N p0 = some r) : Calls Tryd.prog 38 #[.slice a1 (List.length p0) c1] w fun e w' => ∃ (ra1 : Option Addr) (rc1 : Nat) (m' : Mem), e = .returned (.slice ra1 (List.length r) rc1) ∧ m.le m' ∧ St m' (.room ra1 (List.length r) rc1 29 3 :: own) w' ∧ RepS (cPair (cInt .i64) (cPair cStr cStr)) m' ra1 rc1 r := by
 unfold fact_Set at hr
 have hm := m.le_refl
 refine W_calls Tryd.func38 rfl Tryd.ntmps38 [(0, .slice a1 (List.length p0) c1)] kr rfl ?_
 refine W_sr (WO_seg 1 [] kr kr ?_)
 refine WO_et rfl (W_sr ?_)
 refine WO_seg 1 [(3, .slice a1 (List.length p0) c1)] kr kr ?_
 replace ⟨y1, hx1, hr⟩ := bindS hr
 refine WO_one rfl (One_fn 4 65 #[.slice a1 (List.length p0) c1] kr rfl ?_)
 refine (slices_Clone_api_Key_api_Key_own st r1 hx1).mono ?_
 clear st
 rintro _ w1 ⟨a2, c2, T1, m1, rfl, hle1, hs1, st⟩
 refine ⟨_, rfl, ?_⟩
 have hm := Mem.le_trans hm hle1
 have r1 := r1.mono hle1
 refine WO_seg 1 [(0, .slice a2 (List.length y1) c2)] kr kr ?_
 refine WO_et rfl (W_sr ?_)
 refine WO_seg 1 [(5, .slice a2 (List.length y1) c2)] kr kr ?_
 replace ⟨y2, hx2, hr⟩ := bindS hr
 refine WO_one rfl (One_fn 6 66 #[.slice a2 (List.length y1) c2, .func (.func 67) #[] #[]] kr rfl ?_)
 refine (slices_SortFunc_api_Key_api_Key_own_fact_Compare st hs1 rfl hx2).mono ?_
 clear st
 rintro _ w2 ⟨rfl, st⟩
 refine ⟨_, rfl, ?_⟩
 have hn1 := ((slices_SortFunc_api_Key_api_Key_len_fact_Compare hx2).trans rfl)
 refine WO_et rfl (W_sr ?_)
 refine WO_seg 1 [(7, .slice a2 (List.length y1) c2)] kr kr ?_
 replace ⟨o1, hr, hrKu1⟩ := bindS hr
 refine WO_one rfl (One_fn 8 68 #[.slice a2 (List.length y1) c2] kr rfl ?_)
 refine Calls_cut (fun v' w' => ∃ (a4 : Option Addr) (c4 : Nat) (m3 : Mem), v' = (.slice a4 (List.length o1) c4) ∧ m.le m3 ∧ St m3 (.room a4 (List.length o1) c4 29 3 :: own) w' ∧ RepS (cPair (cInt .i64) (cPair cStr cStr)) m3 a4 c4 o1) ?_ ?_
 ·clear hr st
  have hr := hrKu1
  clear hrKu1
  rintro _ w3 ⟨a4, c4, m3, rfl, hm, st, r3⟩
  refine ⟨_, rfl, ?_⟩
  refine WO_seg 1 [(2, .slice a4 (List.length o1) c4)] kr kr ?_
  refine WO_et rfl (W_ret ?_)
  obtain rfl := Option.some.inj hr
  refine X_ret [.tmp 2] [.slice a4 (List.length o1) c4] rfl (ResAll.cons (ResAt.tmp kr) ResAll.nil) ?_
  exact ⟨a4, c4, m3, rfl, hm, st, r3⟩
 ·clear hrKu1
  refine W_calls Tryd.func68 rfl Tryd.ntmps68 [(0, .slice a2 (List.length y1) c2)] kr rfl ?_
  refine W_sr (WO_seg 1 [] kr kr ?_)
  refine WO_et rfl (W_seq ?_)
  refine W_sr (WO_seg 3 [(8, .bool (decide (((List.length y1) : Int) < 2)))] kr kr ?_)
  refine WO_et rfl (W_cond (decide (((List.length y1) : Int) < 2)) kr ?_ ?_)
  ·intro hc
   rw [if_pos hc] at hr
   refine W_sr (WO_seg 2 [(2, .slice a2 (List.length y1) c2)] kr kr ?_)
   refine WO_et rfl (W_ret ?_)
   refine X_then_ret ?_
   obtain rfl := Option.some.inj hr
   obtain ⟨m4, hle3, st, r4⟩ := St.freezeM (c := (cPair (cInt .i64) (cPair cStr cStr))) (f := (fun x : Int × ByteArray × ByteArray => ([.int .i64 x.1, .string x.2.1, .string x.2.2] : List Value))) st hs1 hn1 (fun _ => rfl) (fun _ x => ⟨_, _, rfl, rfl, ⟨_, _, rfl, rfl, rfl⟩⟩)
   have hm := Mem.le_trans hm hle3
   refine X_env [(2, .slice a2 (List.length y2) c2)] (by (try simp only [hn1]); kernel_rfl) ?_
   refine X_ret [.tmp 2] [.slice a2 (List.length y2) c2] rfl (ResAll.cons (ResAt.tmp kr) ResAll.nil) ?_
   exact ⟨_, rfl, ⟨a2, c2, m4, rfl, hm, st, r4⟩⟩
  ·intro hc
   rw [if_neg (not_true hc)] at hr
   refine W_skip ?_
   refine X_then ?_
   refine W_seq ?_
   refine W_sr (WO_seg 1 [(3, .int .i64 1)] kr kr ?_)
   refine WO_et rfl (W_block ?_)
   replace ⟨out1, hr, hrKu2⟩ := bindS hr
   refine W_cut (.exit 0) (fun L' w' => ∃ (o2 : Unit) (m5 : Mem), (.inl o2) = out1 ∧ L' = [(0, .slice a2 (List.length y1) c2)] ∧ m.le m5 ∧ St m5 (opc a2 (acellsM (fun x : Int × ByteArray × ByteArray => ([.int .i64 x.1, .string x.2.1, .string x.2.2] : List Value)) y2 T1) 29 :: own) w' ∧ List.length y2 = (List.length y1)) ?_ ?_
   ·clear hr st
    rintro _ w4 ⟨o2, m5, rfl, rfl, hm, st, hn1⟩
    have hr := hrKu2
    clear hrKu2
    dsimp only at hr
    refine X_block_eq ?_
    refine X_then ?_
    refine W_sr (WO_seg 2 [(2, .slice a2 (List.length y1) c2)] kr kr ?_)
    refine WO_et rfl (W_ret ?_)
    obtain rfl := Option.some.inj hr
    obtain ⟨m11, hle5, st, r6⟩ := St.freezeM (c := (cPair (cInt .i64) (cPair cStr cStr))) (f := (fun x : Int × ByteArray × ByteArray => ([.int .i64 x.1, .string x.2.1, .string x.2.2] : List Value))) st hs1 hn1 (fun _ => rfl) (fun _ x => ⟨_, _, rfl, rfl, ⟨_, _, rfl, rfl, rfl⟩⟩)
    have hm := Mem.le_trans hm hle5
    refine X_env [(2, .slice a2 (List.length y2) c2)] (by (try simp only [hn1]); kernel_rfl) ?_
    refine X_ret [.tmp 2] [.slice a2 (List.length y2) c2] rfl (ResAll.cons (ResAt.tmp kr) ResAll.nil) ?_
    exact ⟨_, rfl, ⟨a2, c2, m11, rfl, hm, st, r6⟩⟩
   intro K0_u2
   refine W_env _ kr (W_loop (fun k1 L' w' => ∃ (s1 : Int) (m6 : Mem), loopM (fact_Set_L1 N y1 y2) k1 s1 = some out1 ∧ L' = [(0, .slice a2 (List.length y1) c2), (3, .int .i64 s1)] ∧ m.le m6 ∧ St m6 (opc a2 (acellsM (fun x : Int × ByteArray × ByteArray => ([.int .i64 x.1, .string x.2.1, .string x.2.2] : List Value)) y2 T1) 29 :: own) w' ∧ List.length y2 = (List.length y1)) N ⟨1, m1, hr, rfl, hm, st, hn1⟩ ?_)
   clear st hr
   rintro k1 _ w5 ⟨s1, m6, hL, rfl, hm, st, hn1⟩
   rcases k1 with _ | k1
   ·exact loopM_zero hL
   ·obtain ⟨qu2, hr, hSu2, hBu2⟩ := loopM_succ hL
    clear hL
    unfold fact_Set_L1 at hr
    refine W_seq ?_
    refine W_sr (WO_seg 4 [(13, .bool (decide (s1 < ((List.length y1) : Int))))] kr kr ?_)
    refine WO_et rfl (W_cond (decide (s1 < ((List.length y1) : Int))) kr ?_ ?_)
    ·intro hc
     rw [if_pos hc] at hr
     refine W_skip ?_
     refine X_then ?_
     refine W_seq ?_
     refine W_block ?_
     refine W_seq ?_
     refine W_draw [(10, fun w' => Inv m6 w' ∧ Piece.holds m6 w' (opc a2 (acellsM (fun x : Int × ByteArray × ByteArray => ([.int .i64 x.1, .string x.2.1, .string x.2.2] : List Value)) y2 T1) 29) ∧ True)] kr st ?_
     clear st
     intro w6 _ st
     have hmS1 := m6.le_refl
     refine ⟨⟨.inr ⟨Inv.anti st.inv hmS1, opc_anti st.head hmS1, trivial⟩, trivial⟩, ?_⟩
     refine WA_pure 0 16 (.slice a2 (List.length y1) c2) kr rfl kr (.head _) (QP_then (QP_block (QP_then (QP_then (QP_block (QP_then QP_body)))))) ?_
     refine WA_pure 1 17 (.int .i64 s1) kr rfl kr (.head _) (QP_then (QP_block (QP_then (QP_then (QP_block (QP_then QP_body)))))) ?_
     replace ⟨x1, hx3, hr⟩ := bindS hr
     refine WA_arrIndexM (t := 23) (e := 29) (x := (.tmp 16)) (y := (.tmp 17)) (k := 3) 2 18 kr rfl kr (.head _) (QP_then (QP_block (QP_then (QP_then (QP_block (QP_then QP_body)))))) (ev (.slice a2 (List.length y1) c2)) (ev (.int .i64 s1)) kr hs1 hn1 hx3 ?_
     refine WA_arrLoadM (t := 29) (x := (.tmp 18)) (o := 0) (f := (fun x : Int × ByteArray × ByteArray => ([.int .i64 x.1, .string x.2.1, .string x.2.2] : List Value))) (z := x1) (v := .agg #[.int .i64 x1.1, .string x1.2.1, .string x1.2.2]) 3 19 (fun _ => rfl) (Int.toNat s1 * 3) rfl kr rfl kr (.head _) (QP_then (QP_block (QP_then (QP_then (QP_block (QP_then QP_body)))))) (fun _ h => h.2.1) (ev (.pointer (some ⟨ab a2, Int.toNat s1 * 3, none⟩))) hs1 hn1 hx3 kr ?_
     refine WA_pure 4 20 (.slice a2 (List.length y1) c2) kr rfl kr (.head _) (QP_then (QP_block (QP_then (QP_then (QP_block (QP_then QP_body)))))) ?_
     refine WA_pure 5 21 (.int .i64 s1) kr rfl kr (.head _) (QP_then (QP_block (QP_then (QP_then (QP_block (QP_then QP_body)))))) ?_
     refine WA_pure 6 22 (.int .i64 (IntKind.wrap .i64 (s1 - 1))) kr rfl kr (.head _) (QP_then (QP_block (QP_then (QP_then (QP_block (QP_then QP_body)))))) ?_
     replace ⟨x2, hx4, hr⟩ := bindS hr
     refine WA_arrIndexM (t := 23) (e := 29) (x := (.tmp 20)) (y := (.tmp 22)) (k := 3) 7 23 kr rfl kr (.head _) (QP_then (QP_block (QP_then (QP_then (QP_block (QP_then QP_body)))))) (ev (.slice a2 (List.length y1) c2)) (ev (.int .i64 (IntKind.wrap .i64 (s1 - 1)))) kr hs1 hn1 hx4 ?_
     refine WA_arrLoadM (t := 29) (x := (.tmp 23)) (o := 0) (f := (fun x : Int × ByteArray × ByteArray => ([.int .i64 x.1, .string x.2.1, .string x.2.2] : List Value))) (z := x2) (v := .agg #[.int .i64 x2.1, .string x2.2.1, .string x2.2.2]) 8 24 (fun _ => rfl) (Int.toNat (IntKind.wrap .i64 (s1 - 1)) * 3) rfl kr rfl kr (.head _) (QP_then (QP_block (QP_then (QP_then (QP_block (QP_then QP_body)))))) (fun _ h => h.2.1) (ev (.pointer (some ⟨ab a2, Int.toNat (IntKind.wrap .i64 (s1 - 1)) * 3, none⟩))) hs1 hn1 hx4 kr ?_
     refine WA_one 9 kr  (One_eqAgg (d := 25) (t := 29) (t2 := 29) (x := (.tmp 19)) (y := (.tmp 24)) (xs := #[.int .i64 x1.1, .string x1.2.1, .string x1.2.2]) (ys := #[.int .i64 x2.1, .string x2.2.1, .string x2.2.2]) ((x1.1 == x2.1) && ((x1.2.1.toList == x2.2.1.toList) && ((x1.2.2.toList == x2.2.2.toList) && true))) kr rfl (ev (.agg #[.int .i64 x1.1, .string x1.2.1, .string x1.2.2])) (ev (.agg #[.int .i64 x2.1, .string x2.2.1, .string x2.2.2])) kr kr kr ?_)
     refine ⟨⟨.inr ⟨Inv.anti st.inv hmS1, opc_anti st.head hmS1, trivial⟩, trivial⟩, ?_⟩
     refine WA_done kr ?_
     refine X_then ?_
     refine W_cond ((x1.1 == x2.1) && ((x1.2.1.toList == x2.2.1.toList) && ((x1.2.2.toList == x2.2.2.toList) && true))) kr ?_ ?_
     ·intro hc
      rw [if_pos hc] at hr
      refine W_sr (WO_seg 2 [(26, .slice a2 (List.length y1) c2), (27, .int .i64 s1)] kr kr ?_)
      replace ⟨u3, hx5, hr⟩ := bindS hr
      refine WO_one rfl (One_viewM (d := 28) (t := 23) (e := 29) (k := 3) (x := (.tmp 26)) (lo := (some (.tmp 27))) (hi := none) (li := s1) (hix := (List.length y2 : Int)) kr rfl (ev (.slice a2 (List.length y1) c2)) kr (.inr ⟨_, _, rfl, (ev (.int .i64 s1))⟩) (.inl ⟨rfl, congrArg Nat.cast hn1⟩) hs1 hn1 hx5 ?_)
      have hv1 := chk_n hx5 hn1
      refine WO_seg 1 [(4, .slice (slA a2 c2 (Int.toNat s1) 3) (Int.toNat (List.length y2 : Int) - Int.toNat s1) (c2 - Int.toNat s1))] kr kr ?_
      refine WO_et rfl (W_seq ?_)
      refine W_sr (WO_seg 1 [(5, .int .i64 1)] kr kr ?_)
      refine WO_et rfl (W_block ?_)
      replace ⟨out2, hr, hrKu4⟩ := bindS hr
      refine W_cut (.exit 2) (fun L' w' => ∃ (o3 : Int × (List (Int × ByteArray × ByteArray))) (m7 : Mem), o3 = out2 ∧ L' = [(0, .slice a2 (List.length y1) c2), (3, .int .i64 o3.1)] ∧ m.le m7 ∧ St m7 (opc a2 (acellsM (fun x : Int × ByteArray × ByteArray => ([.int .i64 x.1, .string x.2.1, .string x.2.2] : List Value)) o3.2 T1) 29 :: own) w' ∧ List.length o3.2 = (List.length y1)) ?_ ?_
      ·clear hr st
       rintro _ w7 ⟨o3, m7, rfl, rfl, hm, st, hn2⟩
       have hr := hrKu4
       clear hrKu4
       refine X_block_eq ?_
       refine X_then ?_
       refine W_sr (WO_seg 2 [(54, .slice a2 (List.length y1) c2), (55, .int .i64 o3.1)] kr kr ?_)
       replace ⟨u6, hx13, hr⟩ := bindS hr
       refine WO_one rfl (One_viewM (d := 56) (t := 23) (e := 29) (k := 3) (x := (.tmp 54)) (lo := (some (.tmp 55))) (hi := none) (li := o3.1) (hix := (List.length o3.2 : Int)) kr rfl (ev (.slice a2 (List.length y1) c2)) kr (.inr ⟨_, _, rfl, (ev (.int .i64 o3.1))⟩) (.inl ⟨rfl, congrArg Nat.cast hn2⟩) hs1 hn2 hx13 ?_)
       have hv2 := chk_n hx13 hn2
       replace ⟨l1, hx14, hr⟩ := bindS hr
       refine WO_one rfl (One_clearM (t := 23) (e := 29) (k := 3) (x := (.tmp 56)) (f := (fun x : Int × ByteArray × ByteArray => ([.int .i64 x.1, .string x.2.1, .string x.2.2] : List Value))) (l := o3.2) (lo := o3.1) (z := .agg #[.int .i64 0, .string (⟨#[]⟩ : ByteArray), .string (⟨#[]⟩ : ByteArray)]) (z0 := (0, (⟨#[]⟩ : ByteArray), (⟨#[]⟩ : ByteArray))) (fun _ => rfl) (fun _ _ hv => by simp only [List.mem_cons, List.not_mem_nil, or_false] at hv; rcases hv with rfl | rfl | rfl <;> rfl) kr (ev (.slice (slA a2 c2 (Int.toNat o3.1) 3) (Int.toNat (List.length o3.2 : Int) - Int.toNat o3.1) (c2 - Int.toNat o3.1))) rfl kr kr rfl st hs1 hn2 hx14 ?_)
       clear st
       intro w12 st
       have hn6 := ((clearM_len hx14).trans hn2)
       refine WO_et rfl (W_sr ?_)
       refine WO_seg 2 [(57, .slice a2 (List.length y1) c2), (58, .int .i64 o3.1)] kr kr ?_
       replace ⟨u7, hx15, hr⟩ := bindS hr
       refine WO_one rfl (One_viewM (d := 59) (t := 23) (e := 29) (k := 3) (x := (.tmp 57)) (lo := none) (hi := (some (.tmp 58))) (li := 0) (hix := o3.1) kr rfl (ev (.slice a2 (List.length y1) c2)) kr (.inl ⟨rfl, rfl⟩) (.inr ⟨_, _, rfl, (ev (.int .i64 o3.1))⟩) hs1 hn6 hx15 ?_)
       have hv3 := chk_n hx15 hn6
       refine WO_seg 1 [(2, .slice (slA a2 c2 (Int.toNat 0) 3) (Int.toNat o3.1 - Int.toNat 0) (c2 - Int.toNat 0))] kr kr ?_
       refine WO_et rfl (W_ret ?_)
       refine X_block_ret ?_
       refine X_then_ret ?_
       obtain rfl := Option.some.inj hr
       have ho := hBu2 _ rfl
       subst ho
       have hr := hrKu2
       dsimp only at hr
       refine X_then_ret ?_
       refine X_block_ret ?_
       refine X_then_ret ?_
       obtain rfl := Option.some.inj hr
       have hw1 := view0 (k := 3) (l := l1) hs1 hn6 hv3
       obtain ⟨m10, hle4, st, r5⟩ := St.freezeView (c := (cPair (cInt .i64) (cPair cStr cStr))) (f := (fun x : Int × ByteArray × ByteArray => ([.int .i64 x.1, .string x.2.1, .string x.2.2] : List Value))) (hi := o3.1) st hs1 hn6 (fun _ => rfl) (fun _ x => ⟨_, _, rfl, rfl, ⟨_, _, rfl, rfl, rfl⟩⟩) hv3
       have hm := Mem.le_trans hm hle4
       refine X_env [(2, .slice a2 (List.length (List.take (Int.toNat o3.1) l1)) c2)] (by (try simp only [hw1]); kernel_rfl) ?_
       refine X_ret [.tmp 2] [.slice a2 (List.length (List.take (Int.toNat o3.1) l1)) c2] rfl (ResAll.cons (ResAt.tmp kr) ResAll.nil) ?_
       exact ⟨_, rfl, ⟨a2, c2, m10, rfl, hm, st, r5⟩⟩
      intro K2_u4
      clear hrKu4
      refine W_env _ kr (W_loop (fun k2 L' w' => ∃ (s2 : Int × Int × (List (Int × ByteArray × ByteArray))) (m8 : Mem), loopM (fact_Set_L2 N y2 s1) k2 s2 = some out2 ∧ L' = [(0, .slice a2 (List.length y1) c2), (3, .int .i64 s2.1), (4, .slice (slA a2 c2 (Int.toNat s1) 3) (Int.toNat (List.length y2 : Int) - Int.toNat s1) (c2 - Int.toNat s1)), (5, .int .i64 s2.2.1)] ∧ m.le m8 ∧ St m8 (opc a2 (acellsM (fun x : Int × ByteArray × ByteArray => ([.int .i64 x.1, .string x.2.1, .string x.2.2] : List Value)) s2.2.2 T1) 29 :: own) w' ∧ List.length s2.2.2 = (List.length y1)) N ⟨(s1, 1, y2), m6, hr, rfl, hm, st, hn1⟩ ?_)
      clear st hr
      rintro k2 _ w8 ⟨s2, m8, hL, rfl, hm, st, hn3⟩
      rcases k2 with _ | k2
      ·exact loopM_zero hL
      ·obtain ⟨qu4, hr, hSu4, hBu4⟩ := loopM_succ hL
       clear hL
       unfold fact_Set_L2 at hr
       refine W_seq ?_
       refine W_sr (WO_seg 4 [(32, .bool (decide (s2.2.1 < ((Int.toNat (List.length y2 : Int) - Int.toNat s1 : Nat) : Int))))] kr kr ?_)
       refine WO_et rfl (W_cond (decide (s2.2.1 < ((Int.toNat (List.length y2 : Int) - Int.toNat s1 : Nat) : Int))) kr ?_ ?_)
       ·intro hc
        rw [if_pos hc] at hr
        refine W_skip ?_
        refine X_then ?_
        refine W_seq ?_
        replace ⟨o4, hr, hrKu5⟩ := bindS hr
        refine W_cut .normal (fun L' w' => ∃ (m9 : Mem), L' = [(0, .slice a2 (List.length y1) c2), (3, .int .i64 o4.1), (4, .slice (slA a2 c2 (Int.toNat s1) 3) (Int.toNat (List.length y2 : Int) - Int.toNat s1) (c2 - Int.toNat s1)), (5, .int .i64 s2.2.1)] ∧ m.le m9 ∧ St m9 (opc a2 (acellsM (fun x : Int × ByteArray × ByteArray => ([.int .i64 x.1, .string x.2.1, .string x.2.2] : List Value)) o4.2 T1) 29 :: own) w' ∧ List.length o4.2 = (List.length y1)) ?_ ?_
        ·clear hr st
         have hr := hrKu5
         clear hrKu5
         rintro _ w9 ⟨m9, rfl, hm, st, hn4⟩
         refine X_then ?_
         refine W_region ?_
         refine WO_seg 3 [(5, .int .i64 (IntKind.wrap .i64 (s2.2.1 + 1)))] kr kr ?_
         refine WO_end rfl ?_
         obtain rfl := Option.some.inj hr
         have hL := hSu4 _ rfl
         exact X_env _ kr (X_round k2 (Nat.lt_succ_self _) ⟨(o4.1, IntKind.wrap .i64 (s2.2.1 + 1), o4.2), m9, hL, rfl, hm, st, hn4⟩)
        ·intro Ku5
         clear hrKu5
         refine W_block ?_
         refine W_seq ?_
         refine W_draw [(10, fun w' => Inv m8 w' ∧ Piece.holds m8 w' (opc a2 (acellsM (fun x : Int × ByteArray × ByteArray => ([.int .i64 x.1, .string x.2.1, .string x.2.2] : List Value)) s2.2.2 T1) 29) ∧ True)] kr st ?_
         clear st
         intro w10 _ st
         have hmS2 := m8.le_refl
         refine ⟨⟨.inr ⟨Inv.anti st.inv hmS2, opc_anti st.head hmS2, trivial⟩, trivial⟩, ?_⟩
         refine WA_pure 0 35 (.slice (slA a2 c2 (Int.toNat s1) 3) (Int.toNat (List.length y2 : Int) - Int.toNat s1) (c2 - Int.toNat s1)) kr rfl kr (.head _) (QP_then (QP_block (QP_then (QP_then (QP_block (QP_then (QP_block (QP_then (QP_then (QP_block (QP_then QP_body))))))))))) ?_
         refine WA_pure 1 36 (.int .i64 s2.2.1) kr rfl kr (.head _) (QP_then (QP_block (QP_then (QP_then (QP_block (QP_then (QP_block (QP_then (QP_then (QP_block (QP_then QP_body))))))))))) ?_
         replace ⟨x3, hx6, hr⟩ := bindS hr
         refine WA_viewIndex (t := 23) (e := 29) (k := 3) (x := (.tmp 35)) (y := (.tmp 36)) (lo := s1) (hi := (List.length y2 : Int)) (ix := s2.2.1) 2 37 kr rfl kr (.head _) (QP_then (QP_block (QP_then (QP_then (QP_block (QP_then (QP_block (QP_then (QP_then (QP_block (QP_then QP_body))))))))))) (ev (.slice (slA a2 c2 (Int.toNat s1) 3) (Int.toNat (List.length y2 : Int) - Int.toNat s1) (c2 - Int.toNat s1))) (ev (.int .i64 s2.2.1)) kr hs1 hn3 hv1 hx6 ?_
         have hx7 := (idx_view hv1.1 hx6).1
         refine WA_arrLoadM (t := 29) (x := (.tmp 37)) (o := 0) (f := (fun x : Int × ByteArray × ByteArray => ([.int .i64 x.1, .string x.2.1, .string x.2.2] : List Value))) (z := x3) (v := .agg #[.int .i64 x3.1, .string x3.2.1, .string x3.2.2]) 3 38 (fun _ => rfl) (Int.toNat (s1 + s2.2.1) * 3) rfl kr rfl kr (.head _) (QP_then (QP_block (QP_then (QP_then (QP_block (QP_then (QP_block (QP_then (QP_then (QP_block (QP_then QP_body))))))))))) (fun _ h => h.2.1) (ev (.pointer (some ⟨ab a2, Int.toNat (s1 + s2.2.1) * 3, none⟩))) hs1 hn3 hx7 kr ?_
         refine WA_pure 4 39 (.slice (slA a2 c2 (Int.toNat s1) 3) (Int.toNat (List.length y2 : Int) - Int.toNat s1) (c2 - Int.toNat s1)) kr rfl kr (.head _) (QP_then (QP_block (QP_then (QP_then (QP_block (QP_then (QP_block (QP_then (QP_then (QP_block (QP_then QP_body))))))))))) ?_
         refine WA_pure 5 40 (.int .i64 s2.2.1) kr rfl kr (.head _) (QP_then (QP_block (QP_then (QP_then (QP_block (QP_then (QP_block (QP_then (QP_then (QP_block (QP_then QP_body))))))))))) ?_
         refine WA_pure 6 41 (.int .i64 (IntKind.wrap .i64 (s2.2.1 - 1))) kr rfl kr (.head _) (QP_then (QP_block (QP_then (QP_then (QP_block (QP_then (QP_block (QP_then (QP_then (QP_block (QP_then QP_body))))))))))) ?_
         replace ⟨x4, hx8, hr⟩ := bindS hr
         refine WA_viewIndex (t := 23) (e := 29) (k := 3) (x := (.tmp 39)) (y := (.tmp 41)) (lo := s1) (hi := (List.length y2 : Int)) (ix := IntKind.wrap .i64 (s2.2.1 - 1)) 7 42 kr rfl kr (.head _) (QP_then (QP_block (QP_then (QP_then (QP_block (QP_then (QP_block (QP_then (QP_then (QP_block (QP_then QP_body))))))))))) (ev (.slice (slA a2 c2 (Int.toNat s1) 3) (Int.toNat (List.length y2 : Int) - Int.toNat s1) (c2 - Int.toNat s1))) (ev (.int .i64 (IntKind.wrap .i64 (s2.2.1 - 1)))) kr hs1 hn3 hv1 hx8 ?_
         have hx9 := (idx_view hv1.1 hx8).1
         refine WA_arrLoadM (t := 29) (x := (.tmp 42)) (o := 0) (f := (fun x : Int × ByteArray × ByteArray => ([.int .i64 x.1, .string x.2.1, .string x.2.2] : List Value))) (z := x4) (v := .agg #[.int .i64 x4.1, .string x4.2.1, .string x4.2.2]) 8 43 (fun _ => rfl) (Int.toNat (s1 + (IntKind.wrap .i64 (s2.2.1 - 1))) * 3) rfl kr rfl kr (.head _) (QP_then (QP_block (QP_then (QP_then (QP_block (QP_then (QP_block (QP_then (QP_then (QP_block (QP_then QP_body))))))))))) (fun _ h => h.2.1) (ev (.pointer (some ⟨ab a2, Int.toNat (s1 + (IntKind.wrap .i64 (s2.2.1 - 1))) * 3, none⟩))) hs1 hn3 hx9 kr ?_
         refine WA_one 9 kr  (One_neAgg (d := 44) (t := 29) (t2 := 29) (x := (.tmp 38)) (y := (.tmp 43)) (xs := #[.int .i64 x3.1, .string x3.2.1, .string x3.2.2]) (ys := #[.int .i64 x4.1, .string x4.2.1, .string x4.2.2]) ((x3.1 == x4.1) && ((x3.2.1.toList == x4.2.1.toList) && ((x3.2.2.toList == x4.2.2.toList) && true))) kr rfl (ev (.agg #[.int .i64 x3.1, .string x3.2.1, .string x3.2.2])) (ev (.agg #[.int .i64 x4.1, .string x4.2.1, .string x4.2.2])) kr kr kr ?_)
         refine ⟨⟨.inr ⟨Inv.anti st.inv hmS2, opc_anti st.head hmS2, trivial⟩, trivial⟩, ?_⟩
         refine WA_done kr ?_
         refine X_then ?_
         refine W_cond (!((x3.1 == x4.1) && ((x3.2.1.toList == x4.2.1.toList) && ((x3.2.2.toList == x4.2.2.toList) && true)))) kr ?_ ?_
         ·intro hc
          rw [if_pos hc] at hr
          refine W_sr (WO_seg 4 [(45, .slice a2 (List.length y1) c2), (46, .int .i64 s2.1), (47, .slice (slA a2 c2 (Int.toNat s1) 3) (Int.toNat (List.length y2 : Int) - Int.toNat s1) (c2 - Int.toNat s1)), (48, .int .i64 s2.2.1)] kr kr ?_)
          replace ⟨x5, hx10, hr⟩ := bindS hr
          refine WO_one rfl (One_viewIndex (d := 49) (t := 23) (e := 29) (k := 3) (x := (.tmp 47)) (y := (.tmp 48)) (lo := s1) (hi := (List.length y2 : Int)) (ix := s2.2.1) kr rfl (ev (.slice (slA a2 c2 (Int.toNat s1) 3) (Int.toNat (List.length y2 : Int) - Int.toNat s1) (c2 - Int.toNat s1))) (ev (.int .i64 s2.2.1)) kr hs1 hn3 hv1 hx10 ?_)
          have hx11 := (idx_view hv1.1 hx10).1
          refine WO_one rfl (One_arrLoadM (d := 50) (t := 29) (x := (.tmp 49)) (o := 0) (f := (fun x : Int × ByteArray × ByteArray => ([.int .i64 x.1, .string x.2.1, .string x.2.2] : List Value))) (z := x5) (v := .agg #[.int .i64 x5.1, .string x5.2.1, .string x5.2.2]) (fun _ => rfl) (Int.toNat (s1 + s2.2.1) * 3) rfl kr rfl (ev (.pointer (some ⟨ab a2, Int.toNat (s1 + s2.2.1) * 3, none⟩))) st.head hs1 hn3 hx11 kr ?_)
          replace ⟨x6, hx12, hr⟩ := bindS hr
          refine WO_one rfl (One_arrIndexM (d := 51) (t := 23) (e := 29) (x := (.tmp 45)) (y := (.tmp 46)) (k := 3) kr rfl (ev (.slice a2 (List.length y1) c2)) (ev (.int .i64 s2.1)) kr hs1 hn3 hx12 ?_)
          refine WO_one rfl (One_arrStoreM (t := 29) (x := (.tmp 51)) (y := (.tmp 50)) (o := 0) (f := (fun x : Int × ByteArray × ByteArray => ([.int .i64 x.1, .string x.2.1, .string x.2.2] : List Value))) (z := x6) (u := (x5.1, x5.2.1, x5.2.2)) (v := .agg #[.int .i64 x5.1, .string x5.2.1, .string x5.2.2]) (fun _ => rfl) (Int.toNat s2.1 * 3) rfl kr (ev (.pointer (some ⟨ab a2, Int.toNat s2.1 * 3, none⟩))) (ev (.agg #[.int .i64 x5.1, .string x5.2.1, .string x5.2.2])) st hs1 hn3 hx12 kr rfl ?_)
          clear st
          intro w11 st
          have hn5 : List.length (List.set s2.2.2 (Int.toNat s2.1) (x5.1, x5.2.1, x5.2.2)) = (List.length y1) := set_len hn3 _ _
          refine WO_et rfl (W_region ?_)
          refine WO_seg 3 [(3, .int .i64 (IntKind.wrap .i64 (s2.1 + 1)))] kr kr ?_
          refine WO_end rfl ?_
          refine X_block ?_
          obtain rfl := Option.some.inj hr
          exact X_env _ kr (Ku5 _ _ ⟨m8, rfl, hm, st, hn5⟩)
         ·intro hc
          rw [if_neg (not_true hc)] at hr
          refine W_skip ?_
          refine X_block ?_
          obtain rfl := Option.some.inj hr
          exact X_env _ kr (Ku5 _ _ ⟨m8, rfl, hm, st, hn3⟩)
       ·intro hc
        rw [if_neg (not_true hc)] at hr
        refine W_exit ?_
        refine X_then_exit ?_
        obtain rfl := Option.some.inj hr
        have ho := hBu4 _ rfl
        refine X_then_exit ?_
        exact X_env _ kr (K2_u4 _ _ ⟨(s2.1, s2.2.2), m8, ho, rfl, hm, st, hn3⟩)
     ·intro hc
      rw [if_neg (not_true hc)] at hr
      refine W_skip ?_
      refine X_block ?_
      refine X_then ?_
      refine W_region ?_
      refine WO_seg 3 [(3, .int .i64 (IntKind.wrap .i64 (s1 + 1)))] kr kr ?_
      refine WO_end rfl ?_
      obtain rfl := Option.some.inj hr
      have hL := hSu2 _ rfl
      exact X_env _ kr (X_round k1 (Nat.lt_succ_self _) ⟨IntKind.wrap .i64 (s1 + 1), m6, hL, rfl, hm, st, hn1⟩)
    ·intro hc
     rw [if_neg (not_true hc)] at hr
     refine W_exit ?_
     refine X_then_exit ?_
     obtain rfl := Option.some.inj hr
     have ho := hBu2 _ rfl
     refine X_then_exit ?_
     exact X_env _ kr (K0_u2 _ _ ⟨(), m6, ho, rfl, hm, st, hn1⟩)
def slices_Clone_int_int (N : Nat) (p0 : List Int) : Option (List Int) :=
 nilS p0 (some ([] : List (Int))) ((appendS 8 ([] : List (Int)) p0).bind fun l1 => some l1)
set_option maxHeartbeats 4000000 in
set_option maxRecDepth 100000 in
theorem slices_Clone_int_int_ok {N : Nat} {m : Mem} {own : List Piece} {w : World} {p0 : List Int} {a1 : Option Addr} {c1 : Nat} {r : List Int} (st : St m (own) w) (r1 : RepS (cInt .i64) m a1 c1 p0) (hr : slices_Clone_int_int N p0 = some r) : Calls Tryd.prog 92 #[.slice a1 (List.length p0) c1] w fun e w' => ∃ (ra1 : Option Addr) (rc1 : Nat) (m' : Mem), e = .returned (.slice ra1 (List.length r) rc1) ∧ m.le m' ∧ St m' (.room ra1 (List.length r) rc1 3 1 :: own) w' ∧ RepS (cInt .i64) m' ra1 rc1 r := by
 unfold slices_Clone_int_int at hr
 have hm := m.le_refl
 refine W_calls Tryd.func92 rfl Tryd.ntmps92 [(0, .slice a1 (List.length p0) c1)] kr rfl ?_
 refine W_sr (WO_seg 1 [] kr kr ?_)
 refine WO_et rfl (W_seq ?_)
 refine W_sr (WO_seg 1 [(3, .slice a1 (List.length p0) c1)] kr kr ?_)
 rcases bcases (Option.isNone a1) with hnil | hnil
 ·replace hr := nilS_true hr r1 hnil
  refine WO_one rfl (One_nileq (d := 4) (t := 22) (t2 := 22) (e := 3) (x := (.tmp 3)) (y := (.const (.slice none 0 0))) true kr rfl (ev (.slice a1 (List.length p0) c1)) kr rfl hnil ?_)
  refine WO_et rfl (W_cond true kr ?_ (fun h => Bool.noConfusion h))
  intro _
  refine W_sr (WO_seg 1 [(2, .slice none (List.length ([] : List (Int))) 0)] kr kr ?_)
  refine WO_et rfl (W_ret ?_)
  refine X_then_ret ?_
  obtain rfl := Option.some.inj hr
  refine X_ret [.tmp 2] [.slice none (List.length ([] : List (Int))) 0] rfl (ResAll.cons (ResAt.tmp kr) ResAll.nil) ?_
  have st := st.nilroom 3 1
  exact ⟨none, 0, m, rfl, hm, st, (RepS.nil _ _)⟩
 ·replace hr := nilS_false hr
  refine WO_one rfl (One_nileq (d := 4) (t := 22) (t2 := 22) (e := 3) (x := (.tmp 3)) (y := (.const (.slice none 0 0))) false kr rfl (ev (.slice a1 (List.length p0) c1)) kr rfl hnil ?_)
  refine WO_et rfl (W_cond false kr (fun h => Bool.noConfusion h) ?_)
  intro _
  refine W_skip ?_
  refine X_then ?_
  refine W_sr (WO_one rfl (One_buildSlice (d := 5) (t := 22) (e := 3) (len := 0) (parts := #[]) (cInt .i64) (xs := ([] : List (Int))) [] kr rfl (fun _ => buildEmpty_run (by simp) kr _) rfl rfl st rfl ?_))
  clear st
  intro b1 m1 w1 hle1 st r2
  have hm := Mem.le_trans hm hle1
  have r1 := r1.mono hle1
  refine WO_seg 1 [(6, .slice a1 (List.length p0) c1)] kr kr ?_
  replace ⟨l1, hx1, hr⟩ := bindS hr
  refine WO_one rfl (One_append (d := 7) (t := 22) (u := 22) (e := 3) (by_ := 8) (x := (.tmp 5)) (y := (.tmp 6)) (cInt .i64) kr rfl (ev (.slice (some ⟨b1, 0, none⟩) (List.length ([] : List (Int))) 0)) (ev (.slice a1 (List.length p0) c1)) st kr (.inl kr) r2 r1.src hx1 ?_)
  clear st
  intro a2 c2 m2 w2 hle2 st r3
  have hm := Mem.le_trans hm hle2
  have r1 := r1.mono hle2
  have r2 := r2.mono hle2
  refine WO_seg 1 [(2, .slice a2 (List.length l1) c2)] kr kr ?_
  refine WO_et rfl (W_ret ?_)
  obtain rfl := Option.some.inj hr
  refine X_ret [.tmp 2] [.slice a2 (List.length l1) c2] rfl (ResAll.cons (ResAt.tmp kr) ResAll.nil) ?_
  exact ⟨a2, c2, m2, rfl, hm, st, r3⟩
def index_grown_L1 (N : Nat) (p0 : (List ((Int × ByteArray × ByteArray) × List Int)) × Int) (s1 : (List (Int × ByteArray × ByteArray)) × (List ((Int × ByteArray × ByteArray) × List Int)) × (List ((Int × ByteArray × ByteArray) × List Int))) : Option (((List (Int × ByteArray × ByteArray)) × (List ((Int × ByteArray × ByteArray) × List Int)) × (List ((Int × ByteArray × ByteArray) × List Int))) ⊕ (((List (Int × ByteArray × ByteArray)) × (List ((Int × ByteArray × ByteArray) × List Int)) × (List ((Int × ByteArray × ByteArray) × List Int))) ⊕ ((List (Int × ByteArray × ByteArray)) × (List ((Int × ByteArray × ByteArray) × List Int)) × (List ((Int × ByteArray × ByteArray) × List Int))))) :=
 (if (decide ((List.length s1.2.1 : Int) > 0)) = true then (some true) else (some (decide ((List.length s1.1 : Int) > 0))) : Option (Bool)).bind fun o3 => if o3 = true then ((if ((List.length s1.2.1 : Int) == 0) = true then (some 1) else (if ((List.length s1.1 : Int) == 0) = true then (some (-1)) else ((idx s1.2.1 0).bind fun x1 => (idx s1.1 0).bind fun x2 => (fact_Compare N (x1.1.1, x1.1.2.1, x1.1.2.2) (x2.1, x2.2.1, x2.2.2)).bind fun y3 => some y3)) : Option (Int)).bind fun o4 => (if (decide (o4 ≤ 0)) = true then ((idx s1.2.1 0).bind fun x3 => (idx s1.2.1 0).bind fun x4 => (slices_Clone_int_int N x4.2).bind fun y4 => (subS s1.2.1 1 (List.length s1.2.1 : Int)).bind fun l2 => some (x3.1.1, x3.1.2.1, x3.1.2.2, y4, l2)) else (some (0, (⟨#[]⟩ : ByteArray), (⟨#[]⟩ : ByteArray), ([] : List (Int)), s1.2.1)) : Option (Int × ByteArray × ByteArray × List (Int) × (List ((Int × ByteArray × ByteArray) × List Int)))).bind fun o5 => (if (decide (o4 ≥ 0)) = true then ((idx s1.1 0).bind fun x5 => (appendS 8 o5.2.2.2.1 ([p0.2])).bind fun l3 => (subS s1.1 1 (List.length s1.1 : Int)).bind fun l4 => some (x5.1, x5.2.1, x5.2.2, l3, l4)) else (some (o5.1, o5.2.1, o5.2.2.1, o5.2.2.2.1, s1.1)) : Option (Int × ByteArray × ByteArray × List (Int) × (List (Int × ByteArray × ByteArray)))).bind fun o6 => (appendS 64 s1.2.2 ([((o6.1, o6.2.1, o6.2.2.1), o6.2.2.2.1)])).bind fun l5 => some (.inl (o6.2.2.2.2, o5.2.2.2.2, l5))) else (some (.inr (.inl (s1.1, s1.2.1, s1.2.2))))
def index_grown (N : Nat) (p0 : (List ((Int × ByteArray × ByteArray) × List Int)) × Int) (p1 : (ByteArray × ByteArray) × Int × Int × Int × (Int × Int × Int) × Bool × (List ((Int × ByteArray × ByteArray) × Int))) : Option ((List ((Int × ByteArray × ByteArray) × List Int)) × Int) :=
 (record_Keys N ((p1.1.1, p1.1.2), p1.2.1, p1.2.2.1, p1.2.2.2.1, (p1.2.2.2.2.1.1, p1.2.2.2.2.1.2.1, p1.2.2.2.2.1.2.2), p1.2.2.2.2.2.1, p1.2.2.2.2.2.2)).bind fun y1 => (fact_Set N y1).bind fun y2 => ((loopM (index_grown_L1 N p0) N (y2, p0.1, ([] : List ((Int × ByteArray × ByteArray) × List Int)))).bind fun out1 => (match out1 with | .inl o2 => some (o2.1, o2.2.1, o2.2.2) | .inr (z) => some z) : Option ((List (Int × ByteArray × ByteArray)) × (List ((Int × ByteArray × ByteArray) × List Int)) × (List ((Int × ByteArray × ByteArray) × List Int)))).bind fun o1 => some (o1.2.2, IntKind.wrap .i64 (p0.2 + 1))
set_option maxHeartbeats 4000000 in
set_option maxRecDepth 100000 in
theorem index_grown_ok {N : Nat} {m : Mem} {own : List Piece} {w : World} {p0 : (List ((Int × ByteArray × ByteArray) × List Int)) × Int} {p1 : (ByteArray × ByteArray) × Int × Int × Int × (Int × Int × Int) × Bool × (List ((Int × ByteArray × ByteArray) × Int))} {a1 : Option Addr} {c1 : Nat} {a2 : Option Addr} {c2 : Nat} {r : (List ((Int × ByteArray × ByteArray) × List Int)) × Int} (st : St m (own) w) (r1 : RepS (cPair (cPair (cInt .i64) (cPair cStr cStr)) (cSl (cInt .i64))) m a1 c1 p0.1) (r2 : RepS (cPair (cPair (cInt .i64) (cPair cStr cStr)) (cInt .i64)) m a2 c2 p1.2.2.2.2.2.2) (hr : index_grown N p0 p1 = some r) : Calls Tryd.prog 59 #[.agg #[.slice a1 (List.length p0.1) c1, .int .i64 p0.2], .agg #[.string p1.1.1, .string p1.1.2, .int .i64 p1.2.1, .int .i64 p1.2.2.1, .int .i64 p1.2.2.2.1, .int .i64 p1.2.2.2.2.1.1, .int .i64 p1.2.2.2.2.1.2.1, .int .i64 p1.2.2.2.2.1.2.2, .bool p1.2.2.2.2.2.1, .slice a2 (List.length p1.2.2.2.2.2.2) c2]] w fun e w' => ∃ (ra1 : Option Addr) (rc1 : Nat) (m' : Mem), e = .returned (.agg #[.slice ra1 (List.length r.1) rc1, .int .i64 r.2]) ∧ m.le m' ∧ St m' (.room ra1 (List.length r.1) rc1 111 4 :: own) w' ∧ RepS (cPair (cPair (cInt .i64) (cPair cStr cStr)) (cSl (cInt .i64))) m' ra1 rc1 r.1 := by
 unfold index_grown at hr
 have hm := m.le_refl
 refine W_callsM Tryd.func59 rfl Tryd.ntmps59 [(0, .agg #[.slice a1 (List.length p0.1) c1, .int .i64 p0.2]), (1, .agg #[.string p1.1.1, .string p1.1.2, .int .i64 p1.2.1, .int .i64 p1.2.2.1, .int .i64 p1.2.2.2.1, .int .i64 p1.2.2.2.2.1.1, .int .i64 p1.2.2.2.2.1.2.1, .int .i64 p1.2.2.2.2.1.2.2, .bool p1.2.2.2.2.2.1, .slice a2 (List.length p1.2.2.2.2.2.2) c2])] kr rfl ?_
 refine W_sr (WO_one rfl (One_box (d := 2) (e := 64) (x := (.tmp 0)) (.agg #[.slice a1 (List.length p0.1) c1, .int .i64 p0.2]) kr rfl kr st ?_))
 clear st
 intro b1 m1 w1 hle1 st hb1
 have hm := Mem.le_trans hm hle1
 have r1 := r1.mono hle1
 have r2 := r2.mono hle1
 refine WO_one rfl (One_box (d := 3) (e := 73) (x := (.tmp 1)) (.agg #[.string p1.1.1, .string p1.1.2, .int .i64 p1.2.1, .int .i64 p1.2.2.1, .int .i64 p1.2.2.2.1, .int .i64 p1.2.2.2.2.1.1, .int .i64 p1.2.2.2.2.1.2.1, .int .i64 p1.2.2.2.2.1.2.2, .bool p1.2.2.2.2.2.1, .slice a2 (List.length p1.2.2.2.2.2.2) c2]) kr rfl kr st ?_)
 clear st
 intro b2 m2 w2 hle2 st hb2
 have hm := Mem.le_trans hm hle2
 have r1 := r1.mono hle2
 have r2 := r2.mono hle2
 have hb1 := hb1.mono hle2
 refine WO_one rfl (One_alloc (d := 4) (e := 64) (.agg #[.slice none 0 0, .int .i64 0]) kr rfl kr st ?_)
 clear st
 intro b3 w3 st
 refine WO_et rfl (W_sr ?_)
 refine WO_seg 1 [(7, .pointer (some ⟨b1, 1, none⟩))] kr kr ?_
 refine WO_one rfl (One_load_row (d := 8) (t := 3) (x := (.tmp 7)) (.int .i64 p0.2) kr rfl (ev (.pointer (some ⟨b1, 1, none⟩))) st (hb1.drop 1) kr ?_)
 refine WO_seg 2 [(10, .agg #[.slice none (List.length ([] : List ((Int × ByteArray × ByteArray) × List Int))) 0, .int .i64 (IntKind.wrap .i64 (p0.2 + 1))])] kr kr ?_
 refine WO_one rfl (One_alloc (d := 5) (e := 64) (.agg #[.slice none 0 0, .int .i64 0]) kr rfl kr st ?_)
 clear st
 intro b4 w4 st
 refine WO_one rfl (One_store (t := 64) (x := (.tmp 5)) (y := (.tmp 10)) (v := .agg #[.slice none (List.length ([] : List ((Int × ByteArray × ByteArray) × List Int))) 0, .int .i64 (IntKind.wrap .i64 (p0.2 + 1))]) (c' := #[.slice none (List.length ([] : List ((Int × ByteArray × ByteArray) × List Int))) 0, .int .i64 (IntKind.wrap .i64 (p0.2 + 1))]) kr (ev (.pointer (some ⟨b4, 0, none⟩))) (ev (.agg #[.slice none (List.length ([] : List ((Int × ByteArray × ByteArray) × List Int))) 0, .int .i64 (IntKind.wrap .i64 (p0.2 + 1))])) st kr kr ?_)
 clear st
 intro w5 st
 refine WO_et rfl (W_seq ?_)
 refine W_seq ?_
 refine W_draw [(8, fun w' => Inv m2 w' ∧ True)] kr st ?_
 clear st
 intro w6 _ st
 have hmS1 := m2.le_refl
 refine ⟨⟨.inr ⟨Inv.anti st.inv hmS1, trivial⟩, trivial⟩, ?_⟩
 refine WA_pure 0 11 (.pointer (some ⟨b1, 0, none⟩)) kr rfl kr (.head _) (QP_then (QP_then QP_bodyQ)) ?_
 refine WA_load_row (t := 62) (x := (.tmp 11)) 1 12 (.slice a1 (List.length p0.1) c1) kr rfl kr (.head _) (QP_then (QP_then QP_bodyQ)) (fun _ h => h.1) (ev (.pointer (some ⟨b1, 0, none⟩))) hb1 kr ?_
 refine WA_load_row (t := 73) (x := (.tmp 3)) 2 13 (.agg #[.string p1.1.1, .string p1.1.2, .int .i64 p1.2.1, .int .i64 p1.2.2.1, .int .i64 p1.2.2.2.1, .int .i64 p1.2.2.2.2.1.1, .int .i64 p1.2.2.2.2.1.2.1, .int .i64 p1.2.2.2.2.1.2.2, .bool p1.2.2.2.2.2.1, .slice a2 (List.length p1.2.2.2.2.2.2) c2]) kr rfl kr (.head _) (QP_then (QP_then QP_bodyQ)) (fun _ h => h.1) (ev (.pointer (some ⟨b2, 0, none⟩))) hb2 kr ?_
 refine WA_pure 5 16 (.pointer (some ⟨b1, 1, none⟩)) kr rfl kr (.head _) (QP_then (QP_then QP_bodyQ)) ?_
 refine WA_load_row (t := 3) (x := (.tmp 16)) 6 17 (.int .i64 p0.2) kr rfl kr (.head _) (QP_then (QP_then QP_bodyQ)) (fun _ h => h.1) (ev (.pointer (some ⟨b1, 1, none⟩))) (hb1.drop 1) kr ?_
 replace ⟨y1, hx1, hr⟩ := bindS hr
 refine WA_one 3 kr  (One_fn 14 89 #[.agg #[.string p1.1.1, .string p1.1.2, .int .i64 p1.2.1, .int .i64 p1.2.2.1, .int .i64 p1.2.2.2.1, .int .i64 p1.2.2.2.2.1.1, .int .i64 p1.2.2.2.2.1.2.1, .int .i64 p1.2.2.2.2.1.2.2, .bool p1.2.2.2.2.2.1, .slice a2 (List.length p1.2.2.2.2.2.2) c2]] kr rfl ?_)
 refine (record_Keys_ok st r2 hx1).mono ?_
 clear st
 rintro _ w7 ⟨a3, c3, m3, rfl, hle3, st, r3⟩
 refine ⟨_, rfl, ?_⟩
 have hm := Mem.le_trans hm hle3
 have hb1 := hb1.mono hle3
 have r1 := r1.mono hle3
 have hb2 := hb2.mono hle3
 have r2 := r2.mono hle3
 have hmS1 := Mem.le_trans hmS1 hle3
 refine ⟨⟨.inr ⟨Inv.anti st.inv hmS1, trivial⟩, trivial⟩, ?_⟩
 replace ⟨y2, hx2, hr⟩ := bindS hr
 refine WA_one 4 kr  (One_fn 15 38 #[.slice a3 (List.length y1) c3] kr rfl ?_)
 refine (fact_Set_ok st r3 hx2).mono ?_
 clear st
 rintro _ w8 ⟨a4, c4, m4, rfl, hle4, st, r4⟩
 refine ⟨_, rfl, ?_⟩
 have hm := Mem.le_trans hm hle4
 have hb1 := hb1.mono hle4
 have r1 := r1.mono hle4
 have hb2 := hb2.mono hle4
 have r2 := r2.mono hle4
 have r3 := r3.mono hle4
 have hmS1 := Mem.le_trans hmS1 hle4
 refine ⟨⟨.inr ⟨Inv.anti st.inv hmS1, trivial⟩, trivial⟩, ?_⟩
 refine WA_one 7 kr  (One_fn 18 88 #[.slice a1 (List.length p0.1) c1, .slice a4 (List.length y2) c4, .int .i64 p0.2] kr rfl ?_)
 refine W_calls Tryd.func88 rfl Tryd.ntmps88 [(0, .slice a1 (List.length p0.1) c1), (1, .slice a4 (List.length y2) c4), (2, .int .i64 p0.2)] kr rfl ?_
 refine W_sr (WO_one rfl (One_box_own (d := 3) (e := 62) (x := (.tmp 0)) (.slice a1 (List.length p0.1) c1) kr rfl kr st ?_))
 clear st
 intro b5 w9 st
 refine WO_one rfl (One_box_own (d := 4) (e := 23) (x := (.tmp 1)) (.slice a4 (List.length y2) c4) kr rfl kr st ?_)
 clear st
 intro b6 w10 st
 refine WO_one rfl (One_box_own (d := 5) (e := 3) (x := (.tmp 2)) (.int .i64 p0.2) kr rfl kr st ?_)
 clear st
 intro b7 w11 st
 refine WO_seg 1 [] kr kr ?_
 refine WO_et rfl (W_sr ?_)
 refine WO_seg 2 [(6, .func (.func 111) #[] #[.pointer (some ⟨b5, 0, none⟩), .pointer (some ⟨b6, 0, none⟩), .pointer (some ⟨b7, 0, none⟩)])] kr kr ?_
 refine WO_et rfl (W_ret ?_)
 refine X_ret [.tmp 6] [.func (.func 111) #[] #[.pointer (some ⟨b5, 0, none⟩), .pointer (some ⟨b6, 0, none⟩), .pointer (some ⟨b7, 0, none⟩)]] rfl (ResAll.cons (ResAt.tmp kr) ResAll.nil) ?_
 refine ⟨_, rfl, ?_⟩
 refine ⟨⟨.inr ⟨Inv.anti st.inv hmS1, trivial⟩, trivial⟩, ?_⟩
 refine WA_done kr ?_
 have st := st.front4
 have st := st.tail
 refine X_then ?_
 refine W_block ?_
 refine W_rangeFunc (f := 111) (cap := #[.pointer (some ⟨b5, 0, none⟩), .pointer (some ⟨b6, 0, none⟩), .pointer (some ⟨b7, 0, none⟩)]) [] kr (enters_at Tryd.func111 kr) st ?_
 clear st
 intro q1 l1 w12 hpq1 haq1 hbq1 htq1 st
 replace ⟨o1, hr, hrKu1⟩ := bindS hr
 refine Calls_cut (fun v' w' => ∃ (a5 : Option Addr) (c5 : Nat) (a6 : Option Addr) (c6 : Nat) (a7 : Option Addr) (c7 : Nat) (m8 : Mem), v' = (.tuple #[]) ∧ m.le m8 ∧ St m8 (.blk b7 (.cells #[.int .i64 p0.2] 3 (0, 0)) :: .blk b6 (.cells #[.slice a5 (List.length o1.1) c5] 23 (0, 0)) :: .blk b5 (.cells #[.slice a6 (List.length o1.2.1) c6] 62 (0, 0)) :: .blk b4 (.cells #[.slice a7 (List.length o1.2.2) c7, .int .i64 (IntKind.wrap .i64 (p0.2 + 1))] 64 (0, 0)) :: .blk b3 (.cells #[.slice none (List.length ([] : List ((Int × ByteArray × ByteArray) × List Int))) 0, .int .i64 0] 64 (0, 0)) :: lpiece l1 q1 [] 0 :: dpiece q1.D :: .room a7 (List.length o1.2.2) c7 111 4 :: own) w' ∧ RepS (cPair (cInt .i64) (cPair cStr cStr)) m8 a5 c5 o1.1 ∧ RepS (cPair (cPair (cInt .i64) (cPair cStr cStr)) (cSl (cInt .i64))) m8 a6 c6 o1.2.1 ∧ RepS (cPair (cPair (cInt .i64) (cPair cStr cStr)) (cSl (cInt .i64))) m8 a7 c7 o1.2.2) ?_ ?_
 ·clear hr st
  have hr := hrKu1
  clear hrKu1
  rintro _ w13 ⟨a5, c5, a6, c6, a7, c7, m8, rfl, hm, st, r5, r6, r7⟩
  refine ⟨_, rfl, ?_⟩
  have st := st.front5
  refine After_none 0 st rfl ?_
  clear st
  intro w41 st
  refine X_block ?_
  refine X_then ?_
  refine W_sr (WO_one rfl (One_load_own (d := 26) (t := 64) (x := (.tmp 5)) (.agg #[.slice a7 (List.length o1.2.2) c7, .int .i64 (IntKind.wrap .i64 (p0.2 + 1))]) kr rfl (ev (.pointer (some ⟨b4, 0, none⟩))) st.tail.tail.tail.head kr ?_))
  have st := st.front4
  refine WO_one rfl (One_store (t := 64) (x := (.tmp 4)) (y := (.tmp 26)) (v := .agg #[.slice a7 (List.length o1.2.2) c7, .int .i64 (IntKind.wrap .i64 (p0.2 + 1))]) (c' := #[.slice a7 (List.length o1.2.2) c7, .int .i64 (IntKind.wrap .i64 (p0.2 + 1))]) kr (ev (.pointer (some ⟨b3, 0, none⟩))) (ev (.agg #[.slice a7 (List.length o1.2.2) c7, .int .i64 (IntKind.wrap .i64 (p0.2 + 1))])) st kr kr ?_)
  clear st
  intro w42 st
  refine WO_et rfl (W_ret ?_)
  obtain rfl := Option.some.inj hr
  have st := st.front5
  refine X_take st ?_
  clear st
  intro w43 st
  refine X_retM [.cell 4 64] [.agg #[.slice a7 (List.length o1.2.2) c7, .int .i64 (IntKind.wrap .i64 (p0.2 + 1))]] rfl (ResAll.cons (ResAt.blk (v := .agg #[.slice a7 (List.length o1.2.2) c7, .int .i64 (IntKind.wrap .i64 (p0.2 + 1))]) (o := 0) kr st.head kr) ResAll.nil) ?_
  have st := st.tail
  have st := st.tail
  have st := st.tail
  have st := st.tail
  have st := st.tail
  exact ⟨a7, c7, m8, rfl, hm, st, r7⟩
 ·clear hrKu1
  refine W_calls Tryd.func111 rfl Tryd.ntmps111 [(0, .func (.yield l1) #[] #[]), (1, .pointer (some ⟨b5, 0, none⟩)), (2, .pointer (some ⟨b6, 0, none⟩)), (3, .pointer (some ⟨b7, 0, none⟩))] kr rfl ?_
  refine W_block ?_
  replace ⟨out1, hr, hrKu2⟩ := bindS hr
  refine W_cut (.exit 0) (fun L' w' => ∃ (o2 : (List (Int × ByteArray × ByteArray)) × (List ((Int × ByteArray × ByteArray) × List Int)) × (List ((Int × ByteArray × ByteArray) × List Int))) (a8 : Option Addr) (c8 : Nat) (a9 : Option Addr) (c9 : Nat) (a10 : Option Addr) (c10 : Nat) (m9 : Mem), (.inl o2) = out1 ∧ L' = [] ∧ m.le m9 ∧ St m9 (.blk b7 (.cells #[.int .i64 p0.2] 3 (0, 0)) :: .blk b6 (.cells #[.slice a8 (List.length o2.1) c8] 23 (0, 0)) :: .blk b5 (.cells #[.slice a9 (List.length o2.2.1) c9] 62 (0, 0)) :: .blk b4 (.cells #[.slice a10 (List.length o2.2.2) c10, .int .i64 (IntKind.wrap .i64 (p0.2 + 1))] 64 (0, 0)) :: .blk b3 (.cells #[.slice none (List.length ([] : List ((Int × ByteArray × ByteArray) × List Int))) 0, .int .i64 0] 64 (0, 0)) :: lpiece l1 q1 [] 0 :: dpiece q1.D :: .room a10 (List.length o2.2.2) c10 111 4 :: own) w' ∧ RepS (cPair (cInt .i64) (cPair cStr cStr)) m9 a8 c8 o2.1 ∧ RepS (cPair (cPair (cInt .i64) (cPair cStr cStr)) (cSl (cInt .i64))) m9 a9 c9 o2.2.1 ∧ RepS (cPair (cPair (cInt .i64) (cPair cStr cStr)) (cSl (cInt .i64))) m9 a10 c10 o2.2.2) ?_ ?_
  ·clear hr st
   rintro _ w14 ⟨o2, a8, c8, a9, c9, a10, c10, m9, rfl, rfl, hm, st, r8, r9, r10⟩
   have hr := hrKu2
   clear hrKu2
   dsimp only at hr
   refine X_block_eq ?_
   obtain rfl := Option.some.inj hr
   refine X_fall [] [] rfl ResAll.nil ?_
   have st := st.front7.front7.front7.front7.front7.front7.front7.front7
   exact ⟨_, rfl, ⟨a8, c8, a9, c9, a10, c10, m9, rfl, hm, st, r8, r9, r10⟩⟩
  intro K0_u2
  have st := st.nilroom 111 4
  have st := st.front6
  have st := st.tail
  have st := st.front2.front2.front7.front7.front7.front7.front7
  refine W_env _ kr (W_loop (fun k1 L' w' => ∃ (s1 : (List (Int × ByteArray × ByteArray)) × (List ((Int × ByteArray × ByteArray) × List Int)) × (List ((Int × ByteArray × ByteArray) × List Int))) (a11 : Option Addr) (c11 : Nat) (a12 : Option Addr) (c12 : Nat) (a13 : Option Addr) (c13 : Nat) (m10 : Mem), loopM (index_grown_L1 N p0) k1 s1 = some out1 ∧ L' = [(0, .func (.yield l1) #[] #[]), (1, .pointer (some ⟨b5, 0, none⟩)), (2, .pointer (some ⟨b6, 0, none⟩)), (3, .pointer (some ⟨b7, 0, none⟩))] ∧ m.le m10 ∧ St m10 (.blk b7 (.cells #[.int .i64 p0.2] 3 (0, 0)) :: .blk b6 (.cells #[.slice a11 (List.length s1.1) c11] 23 (0, 0)) :: .blk b5 (.cells #[.slice a12 (List.length s1.2.1) c12] 62 (0, 0)) :: .blk b4 (.cells #[.slice a13 (List.length s1.2.2) c13, .int .i64 (IntKind.wrap .i64 (p0.2 + 1))] 64 (0, 0)) :: .blk b3 (.cells #[.slice none (List.length ([] : List ((Int × ByteArray × ByteArray) × List Int))) 0, .int .i64 0] 64 (0, 0)) :: lpiece l1 q1 [] 0 :: dpiece q1.D :: .room a13 (List.length s1.2.2) c13 111 4 :: own) w' ∧ RepS (cPair (cInt .i64) (cPair cStr cStr)) m10 a11 c11 s1.1 ∧ RepS (cPair (cPair (cInt .i64) (cPair cStr cStr)) (cSl (cInt .i64))) m10 a12 c12 s1.2.1 ∧ RepS (cPair (cPair (cInt .i64) (cPair cStr cStr)) (cSl (cInt .i64))) m10 a13 c13 s1.2.2) N ⟨(y2, p0.1, ([] : List ((Int × ByteArray × ByteArray) × List Int))), a4, c4, a1, c1, none, 0, m4, hr, rfl, hm, st, r4, r1, (RepS.nil _ _)⟩ ?_)
  clear st hr
  rintro k1 _ w15 ⟨s1, a11, c11, a12, c12, a13, c13, m10, hL, rfl, hm, st, r11, r12, r13⟩
  rcases k1 with _ | k1
  ·exact loopM_zero hL
  ·obtain ⟨qu2, hr, hSu2, hBu2⟩ := loopM_succ hL
   clear hL
   unfold index_grown_L1 at hr
   refine W_seq ?_
   refine W_sr ?_
   replace ⟨o3, hr, hrK⟩ := bindS hr
   refine WO_cut (j := 8) (fun L' w' => ∃ (m11 : Mem), L' = [(0, .func (.yield l1) #[] #[]), (1, .pointer (some ⟨b5, 0, none⟩)), (2, .pointer (some ⟨b6, 0, none⟩)), (3, .pointer (some ⟨b7, 0, none⟩)), (14, .bool o3)] ∧ m.le m11 ∧ St m11 (.blk b7 (.cells #[.int .i64 p0.2] 3 (0, 0)) :: .blk b6 (.cells #[.slice a11 (List.length s1.1) c11] 23 (0, 0)) :: .blk b5 (.cells #[.slice a12 (List.length s1.2.1) c12] 62 (0, 0)) :: .blk b4 (.cells #[.slice a13 (List.length s1.2.2) c13, .int .i64 (IntKind.wrap .i64 (p0.2 + 1))] 64 (0, 0)) :: .blk b3 (.cells #[.slice none (List.length ([] : List ((Int × ByteArray × ByteArray) × List Int))) 0, .int .i64 0] 64 (0, 0)) :: lpiece l1 q1 [] 0 :: dpiece q1.D :: .room a13 (List.length s1.2.2) c13 111 4 :: own) w' ∧ RepS (cPair (cInt .i64) (cPair cStr cStr)) m11 a11 c11 s1.1 ∧ RepS (cPair (cPair (cInt .i64) (cPair cStr cStr)) (cSl (cInt .i64))) m11 a12 c12 s1.2.1 ∧ RepS (cPair (cPair (cInt .i64) (cPair cStr cStr)) (cSl (cInt .i64))) m11 a13 c13 s1.2.2) ?_ ?_
   ·clear hr st
    have hr := hrK
    clear hrK
    rintro _ w16 ⟨m11, rfl, hm, st, r11, r12, r13⟩
    refine WO_et rfl (W_cond o3 kr ?_ ?_)
    ·intro hc
     rw [if_pos hc] at hr
     refine W_skip ?_
     refine X_then ?_
     refine W_block ?_
     refine W_sr (WO_seg 1 [] kr kr ?_)
     refine WO_et rfl (W_seq ?_)
     replace ⟨o4, hr, hrKu3⟩ := bindS hr
     refine W_cut .normal (fun L' w' => ∃ (m12 : Mem), L' = [(0, .func (.yield l1) #[] #[]), (1, .pointer (some ⟨b5, 0, none⟩)), (2, .pointer (some ⟨b6, 0, none⟩)), (3, .pointer (some ⟨b7, 0, none⟩)), (5, .int .i64 o4)] ∧ m.le m12 ∧ St m12 (.blk b7 (.cells #[.int .i64 p0.2] 3 (0, 0)) :: .blk b6 (.cells #[.slice a11 (List.length s1.1) c11] 23 (0, 0)) :: .blk b5 (.cells #[.slice a12 (List.length s1.2.1) c12] 62 (0, 0)) :: .blk b4 (.cells #[.slice a13 (List.length s1.2.2) c13, .int .i64 (IntKind.wrap .i64 (p0.2 + 1))] 64 (0, 0)) :: .blk b3 (.cells #[.slice none (List.length ([] : List ((Int × ByteArray × ByteArray) × List Int))) 0, .int .i64 0] 64 (0, 0)) :: lpiece l1 q1 [] 0 :: dpiece q1.D :: .room a13 (List.length s1.2.2) c13 111 4 :: own) w' ∧ RepS (cPair (cInt .i64) (cPair cStr cStr)) m12 a11 c11 s1.1 ∧ RepS (cPair (cPair (cInt .i64) (cPair cStr cStr)) (cSl (cInt .i64))) m12 a12 c12 s1.2.1 ∧ RepS (cPair (cPair (cInt .i64) (cPair cStr cStr)) (cSl (cInt .i64))) m12 a13 c13 s1.2.2) ?_ ?_
     ·clear hr st
      have hr := hrKu3
      clear hrKu3
      rintro _ w17 ⟨m12, rfl, hm, st, r11, r12, r13⟩
      refine X_then ?_
      refine W_sr (WO_one rfl (One_alloc (d := 6) (e := 111) (.agg #[.int .i64 0, .string (⟨#[]⟩ : ByteArray), .string (⟨#[]⟩ : ByteArray), .slice none 0 0]) kr rfl kr st ?_))
      clear st
      intro b10 w20 st
      refine WO_et rfl (W_seq ?_)
      refine W_sr (WO_seg 2 [(32, .bool (decide (o4 ≤ 0)))] kr kr ?_)
      refine WO_et rfl ?_
      replace ⟨o5, hr, hrKu4⟩ := bindS hr
      refine W_cut .normal (fun L' w' => ∃ (a15 : Option Addr) (c15 : Nat) (a16 : Option Addr) (c16 : Nat) (m14 : Mem), L' = [(0, .func (.yield l1) #[] #[]), (1, .pointer (some ⟨b5, 0, none⟩)), (2, .pointer (some ⟨b6, 0, none⟩)), (3, .pointer (some ⟨b7, 0, none⟩)), (5, .int .i64 o4), (6, .pointer (some ⟨b10, 0, none⟩))] ∧ m.le m14 ∧ St m14 (.blk b10 (.cells #[.int .i64 o5.1, .string o5.2.1, .string o5.2.2.1, .slice a15 (List.length o5.2.2.2.1) c15] 111 (0, 0)) :: .blk b7 (.cells #[.int .i64 p0.2] 3 (0, 0)) :: .blk b6 (.cells #[.slice a11 (List.length s1.1) c11] 23 (0, 0)) :: .blk b5 (.cells #[.slice a16 (List.length o5.2.2.2.2) c16] 62 (0, 0)) :: .blk b4 (.cells #[.slice a13 (List.length s1.2.2) c13, .int .i64 (IntKind.wrap .i64 (p0.2 + 1))] 64 (0, 0)) :: .blk b3 (.cells #[.slice none (List.length ([] : List ((Int × ByteArray × ByteArray) × List Int))) 0, .int .i64 0] 64 (0, 0)) :: lpiece l1 q1 [] 0 :: dpiece q1.D :: .room a13 (List.length s1.2.2) c13 111 4 :: .room a15 (List.length o5.2.2.2.1) c15 3 1 :: own) w' ∧ RepS (cInt .i64) m14 a15 c15 o5.2.2.2.1 ∧ RepS (cPair (cInt .i64) (cPair cStr cStr)) m14 a11 c11 s1.1 ∧ RepS (cPair (cPair (cInt .i64) (cPair cStr cStr)) (cSl (cInt .i64))) m14 a16 c16 o5.2.2.2.2 ∧ RepS (cPair (cPair (cInt .i64) (cPair cStr cStr)) (cSl (cInt .i64))) m14 a13 c13 s1.2.2) ?_ ?_
      ·clear hr st
       have hr := hrKu4
       clear hrKu4
       rintro _ w21 ⟨a15, c15, a16, c16, m14, rfl, hm, st, r15, r11, r16, r13⟩
       refine X_then ?_
       refine W_seq ?_
       refine W_sr (WO_seg 2 [(47, .bool (decide (o4 ≥ 0)))] kr kr ?_)
       refine WO_et rfl ?_
       replace ⟨o6, hr, hrKu5⟩ := bindS hr
       refine W_cut .normal (fun L' w' => ∃ (a21 : Option Addr) (c21 : Nat) (a22 : Option Addr) (c22 : Nat) (m16 : Mem), L' = [(0, .func (.yield l1) #[] #[]), (1, .pointer (some ⟨b5, 0, none⟩)), (2, .pointer (some ⟨b6, 0, none⟩)), (3, .pointer (some ⟨b7, 0, none⟩)), (6, .pointer (some ⟨b10, 0, none⟩))] ∧ m.le m16 ∧ St m16 (.blk b10 (.cells #[.int .i64 o6.1, .string o6.2.1, .string o6.2.2.1, .slice a21 (List.length o6.2.2.2.1) c21] 111 (0, 0)) :: .blk b7 (.cells #[.int .i64 p0.2] 3 (0, 0)) :: .blk b6 (.cells #[.slice a22 (List.length o6.2.2.2.2) c22] 23 (0, 0)) :: .blk b5 (.cells #[.slice a16 (List.length o5.2.2.2.2) c16] 62 (0, 0)) :: .blk b4 (.cells #[.slice a13 (List.length s1.2.2) c13, .int .i64 (IntKind.wrap .i64 (p0.2 + 1))] 64 (0, 0)) :: .blk b3 (.cells #[.slice none (List.length ([] : List ((Int × ByteArray × ByteArray) × List Int))) 0, .int .i64 0] 64 (0, 0)) :: lpiece l1 q1 [] 0 :: dpiece q1.D :: .room a13 (List.length s1.2.2) c13 111 4 :: .room a21 (List.length o6.2.2.2.1) c21 3 1 :: own) w' ∧ RepS (cInt .i64) m16 a21 c21 o6.2.2.2.1 ∧ RepS (cPair (cInt .i64) (cPair cStr cStr)) m16 a22 c22 o6.2.2.2.2 ∧ RepS (cPair (cPair (cInt .i64) (cPair cStr cStr)) (cSl (cInt .i64))) m16 a16 c16 o5.2.2.2.2 ∧ RepS (cPair (cPair (cInt .i64) (cPair cStr cStr)) (cSl (cInt .i64))) m16 a13 c13 s1.2.2) ?_ ?_
       ·clear hr st
        have hr := hrKu5
        clear hrKu5
        rintro _ w27 ⟨a21, c21, a22, c22, m16, rfl, hm, st, r21, r22, r16, r13⟩
        refine X_then ?_
        refine W_sr (WO_seg 1 [(60, .func (.yield l1) #[] #[])] kr kr ?_)
        refine WO_one rfl (One_load_own (d := 61) (t := 111) (x := (.tmp 6)) (.agg #[.int .i64 o6.1, .string o6.2.1, .string o6.2.2.1, .slice a21 (List.length o6.2.2.2.1) c21]) kr rfl (ev (.pointer (some ⟨b10, 0, none⟩))) st.head kr ?_)
        have st := st.front6
        refine WO_one rfl (One_yield (d := 62) (l := l1) (x := (.tmp 60)) (xs := #[(.tmp 61)]) (ts := #[111]) [.agg #[.int .i64 o6.1, .string o6.2.1, .string o6.2.2.1, .slice a21 (List.length o6.2.2.2.1) c21]] kr rfl (ev (.func (.yield l1) #[] #[])) kr htq1 hpq1 haq1 hbq1 rfl kr st ?_)
        intro R1 hR1
        refine W_regionR rfl ?_
        refine WO_one rfl (One_alloc (d := 6) (e := 111) (.agg #[.int .i64 0, .string (⟨#[]⟩ : ByteArray), .string (⟨#[]⟩ : ByteArray), .slice none 0 0]) kr rfl kr st ?_)
        clear st
        intro b15 w34 st
        refine WO_one rfl (One_store (t := 111) (x := (.tmp 6)) (y := (.tmp 19)) (v := .agg #[.int .i64 o6.1, .string o6.2.1, .string o6.2.2.1, .slice a21 (List.length o6.2.2.2.1) c21]) (c' := #[.int .i64 o6.1, .string o6.2.1, .string o6.2.2.1, .slice a21 (List.length o6.2.2.2.1) c21]) kr (ev (.pointer (some ⟨b15, 0, none⟩))) (ev (.agg #[.int .i64 o6.1, .string o6.2.1, .string o6.2.2.1, .slice a21 (List.length o6.2.2.2.1) c21])) st kr kr ?_)
        clear st
        intro w35 st
        refine WO_end rfl ?_
        have st := st.front1
        refine X_begin st ?_
        clear st
        intro w36 st
        refine W_block ?_
        refine W_regionR rfl ?_
        refine WO_seg 1 [(20, .pointer (some ⟨b4, 0, none⟩))] kr kr ?_
        refine WO_one rfl (One_load_own (d := 21) (t := 62) (x := (.tmp 20)) (.slice a13 (List.length s1.2.2) c13) kr rfl (ev (.pointer (some ⟨b4, 0, none⟩))) st.tail.tail.tail.tail.tail.tail.head kr ?_)
        refine WO_one rfl (One_load_own (d := 22) (t := 111) (x := (.tmp 6)) (.agg #[.int .i64 o6.1, .string o6.2.1, .string o6.2.2.1, .slice a21 (List.length o6.2.2.2.1) c21]) kr rfl (ev (.pointer (some ⟨b15, 0, none⟩))) st.tail.head kr ?_)
        refine WO_one rfl (One_buildSlice (d := 23) (t := 62) (e := 111) (len := 1) (parts := #[(0, (.tmp 22))]) (cPair (cPair (cInt .i64) (cPair cStr cStr)) (cSl (cInt .i64))) (xs := [((o6.1, o6.2.1, o6.2.2.1), o6.2.2.2.1)]) [.int .i64 o6.1, .string o6.2.1, .string o6.2.2.1, .slice a21 (List.length o6.2.2.2.1) c21] kr rfl (fun _ => buildCells_run kr _) rfl rfl st ⟨[.int .i64 o6.1, .string o6.2.1, .string o6.2.2.1, .slice a21 (List.length o6.2.2.2.1) c21], _, rfl, ⟨_, _, rfl, ⟨_, _, rfl, rfl, ⟨_, _, rfl, rfl, rfl⟩⟩, (cSl_mk r21)⟩, rfl⟩ ?_)
        clear st
        intro b16 m19 w37 hle12 st r26
        have hm := Mem.le_trans hm hle12
        have r13 := r13.mono hle12
        have r21 := r21.mono hle12
        have r22 := r22.mono hle12
        have r16 := r16.mono hle12
        have st := st.front10
        replace ⟨l5, hx13, hr⟩ := bindS hr
        refine WO_one rfl (One_append (d := 24) (t := 62) (u := 62) (e := 111) (by_ := 64) (x := (.tmp 21)) (y := (.tmp 23)) (cPair (cPair (cInt .i64) (cPair cStr cStr)) (cSl (cInt .i64))) kr rfl (ev (.slice a13 (List.length s1.2.2) c13)) (ev (.slice (some ⟨b16, 0, none⟩) (List.length ([((o6.1, o6.2.1, o6.2.2.1), o6.2.2.2.1)])) 1)) st kr (.inl kr) r13 r26.src hx13 ?_)
        clear st
        intro a25 c25 m20 w38 hle13 st r27
        have hm := Mem.le_trans hm hle13
        have r13 := r13.mono hle13
        have r21 := r21.mono hle13
        have r26 := r26.mono hle13
        have r22 := r22.mono hle13
        have r16 := r16.mono hle13
        refine WO_seg 1 [(25, .pointer (some ⟨b4, 0, none⟩))] kr kr ?_
        have st := st.front8
        refine WO_one rfl (One_store (t := 62) (x := (.tmp 25)) (y := (.tmp 24)) (v := .slice a25 (List.length l5) c25) (c' := #[.slice a25 (List.length l5) c25, .int .i64 (IntKind.wrap .i64 (p0.2 + 1))]) kr (ev (.pointer (some ⟨b4, 0, none⟩))) (ev (.slice a25 (List.length l5) c25)) st kr kr ?_)
        clear st
        intro w39 st
        refine WO_end rfl ?_
        have st := st.front2
        have st := st.tail
        refine X_block ?_
        have st := st.front2
        refine X_roundN [] st ?_
        clear st
        intro w40 st
        refine hR1 true _ ?_
        refine WO_seg 1 [(63, .bool false)] kr kr ?_
        refine WO_et rfl (W_cond false kr (fun h => Bool.noConfusion h) ?_)
        intro _
        refine W_skip ?_
        refine X_block ?_
        obtain rfl := Option.some.inj hr
        have hL := hSu2 _ rfl
        have st := st.front3
        have st := st.tail
        have st := st.front3
        have st := st.tail
        have st := st.front8
        have st := st.tail
        have st := st.front2.front7.front2.front7.front4.front7.front7.front7
        exact X_env _ kr (X_round k1 (Nat.lt_succ_self _) ⟨(o6.2.2.2.2, o5.2.2.2.2, l5), a22, c22, a16, c16, a25, c25, m20, hL, rfl, hm, st, r22, r16, r27⟩)
       ·intro Ku5
        clear hrKu5
        refine W_cond (decide (o4 ≥ 0)) kr ?_ ?_
        ·intro hc
         rw [if_pos hc] at hr
         refine W_seq ?_
         refine W_draw [(12, fun w' => Inv m14 w' ∧ Piece.holds m14 w' (.blk b7 (.cells #[.int .i64 p0.2] 3 (0, 0))) ∧ Piece.holds m14 w' (.blk b6 (.cells #[.slice a11 (List.length s1.1) c11] 23 (0, 0))) ∧ True), (9, fun w' => Inv m14 w' ∧ Piece.holds m14 w' (.blk b10 (.cells #[.int .i64 o5.1, .string o5.2.1, .string o5.2.2.1, .slice a15 (List.length o5.2.2.2.1) c15] 111 (0, 0))) ∧ True)] kr st ?_
         clear st
         intro w28 _ st
         have hmS4 := m14.le_refl
         refine ⟨⟨.inr ⟨Inv.anti st.inv hmS4, Piece.holds_anti st.tail.head hmS4, Piece.holds_anti st.tail.tail.head hmS4, trivial⟩, ⟨.inr ⟨Inv.anti st.inv hmS4, Piece.holds_anti st.head hmS4, trivial⟩, trivial⟩⟩, ?_⟩
         refine WA_load_own (t := 23) (x := (.tmp 2)) 0 48 (.slice a11 (List.length s1.1) c11) kr rfl kr (.head _) (QP_then (QP_then (QP_block (QP_then (QP_block QP_body))))) (fun _ h => h.2.2.1) (ev (.pointer (some ⟨b6, 0, none⟩))) kr ?_
         replace ⟨x5, hx10, hr⟩ := bindS hr
         refine WA_index (t := 23) (e := 29) (x := (.tmp 48)) (y := (.const (.int .i64 0))) 1 49 (cPair (cInt .i64) (cPair cStr cStr)) kr rfl kr (.head _) (QP_then (QP_then (QP_block (QP_then (QP_block QP_body))))) (ev (.slice a11 (List.length s1.1) c11)) (ev (.int .i64 0)) kr r11 hx10 ?_
         rintro b13 f5 cs5 ⟨_, _, rfl, rfl, ⟨_, _, rfl, rfl, rfl⟩⟩ hq5
         refine WA_load_row (t := 29) (x := (.tmp 49)) 2 50 (.agg #[.int .i64 x5.1, .string x5.2.1, .string x5.2.2]) kr rfl kr (.head _) (QP_then (QP_then (QP_block (QP_then (QP_block QP_body))))) (fun _ h => h.1) (ev (.pointer (some ⟨b13, f5, none⟩))) hq5 kr ?_
         refine WA_pure 3 51 (.pointer (some ⟨b10, 3, none⟩)) kr rfl kr (.head _) (QP_then (QP_then (QP_block (QP_then (QP_block QP_body))))) ?_
         refine WA_load_own (t := 22) (x := (.tmp 51)) 4 52 (.slice a15 (List.length o5.2.2.2.1) c15) kr rfl kr (.tail _ (.head _)) (QP_then (QP_then (QP_block (QP_then (QP_block QP_body))))) (fun _ h => h.2.1) (ev (.pointer (some ⟨b10, 3, none⟩))) kr ?_
         refine WA_load_own (t := 3) (x := (.tmp 3)) 5 53 (.int .i64 p0.2) kr rfl kr (.head _) (QP_then (QP_then (QP_block (QP_then (QP_block QP_body))))) (fun _ h => h.2.1) (ev (.pointer (some ⟨b7, 0, none⟩))) kr ?_
         refine WA_pure 8 56 (.pointer (some ⟨b10, 0, none⟩)) kr rfl kr (.head _) (QP_then (QP_then (QP_block (QP_then (QP_block QP_body))))) ?_
         refine WA_one 6 kr  (One_buildSlice (d := 54) (t := 22) (e := 3) (len := 1) (parts := #[(0, (.tmp 53))]) (cInt .i64) (xs := [p0.2]) [.int .i64 p0.2] kr rfl (fun _ => buildCells_run kr _) rfl rfl st ⟨[.int .i64 p0.2], _, rfl, rfl, rfl⟩ ?_)
         clear st
         intro b14 m17 w29 hle10 st r23
         have hm := Mem.le_trans hm hle10
         have r11 := r11.mono hle10
         have hq5 := hq5.mono hle10
         have r15 := r15.mono hle10
         have r16 := r16.mono hle10
         have r13 := r13.mono hle10
         have hmS4 := Mem.le_trans hmS4 hle10
         refine ⟨⟨.inr ⟨Inv.anti st.inv hmS4, Piece.holds_anti st.tail.tail.head hmS4, Piece.holds_anti st.tail.tail.tail.head hmS4, trivial⟩, ⟨.inr ⟨Inv.anti st.inv hmS4, Piece.holds_anti st.tail.head hmS4, trivial⟩, trivial⟩⟩, ?_⟩
         have st := st.front10
         replace ⟨l3, hx11, hr⟩ := bindS hr
         refine WA_one 7 kr  (One_append (d := 55) (t := 22) (u := 22) (e := 3) (by_ := 8) (x := (.tmp 52)) (y := (.tmp 54)) (cInt .i64) kr rfl (ev (.slice a15 (List.length o5.2.2.2.1) c15)) (ev (.slice (some ⟨b14, 0, none⟩) (List.length ([p0.2])) 1)) st kr (.inl kr) r15 r23.src hx11 ?_)
         clear st
         intro a23 c23 m18 w30 hle11 st r24
         have hm := Mem.le_trans hm hle11
         have r11 := r11.mono hle11
         have hq5 := hq5.mono hle11
         have r15 := r15.mono hle11
         have r23 := r23.mono hle11
         have r16 := r16.mono hle11
         have r13 := r13.mono hle11
         have hmS4 := Mem.le_trans hmS4 hle11
         refine ⟨⟨.inr ⟨Inv.anti st.inv hmS4, Piece.holds_anti st.tail.tail.tail.head hmS4, Piece.holds_anti st.tail.tail.tail.tail.head hmS4, trivial⟩, ⟨.inr ⟨Inv.anti st.inv hmS4, Piece.holds_anti st.tail.tail.head hmS4, trivial⟩, trivial⟩⟩, ?_⟩
         have st := st.front2
         refine WA_one 9 kr  (One_store (t := 29) (x := (.tmp 56)) (y := (.tmp 50)) (v := .agg #[.int .i64 x5.1, .string x5.2.1, .string x5.2.2]) (c' := #[.int .i64 x5.1, .string x5.2.1, .string x5.2.2, .slice a15 (List.length o5.2.2.2.1) c15]) kr (ev (.pointer (some ⟨b10, 0, none⟩))) (ev (.agg #[.int .i64 x5.1, .string x5.2.1, .string x5.2.2])) st kr kr ?_)
         clear st
         intro w31 st
         refine ⟨⟨.inr ⟨Inv.anti st.inv hmS4, Piece.holds_anti st.tail.tail.tail.head hmS4, Piece.holds_anti st.tail.tail.tail.tail.head hmS4, trivial⟩, ⟨.inl rfl, trivial⟩⟩, ?_⟩
         refine WA_pure 10 57 (.pointer (some ⟨b10, 3, none⟩)) kr rfl kr (.head _) (QP_then (QP_then (QP_block (QP_then (QP_block QP_body))))) ?_
         refine WA_one 11 kr  (One_store (t := 22) (x := (.tmp 57)) (y := (.tmp 55)) (v := .slice a23 (List.length l3) c23) (c' := #[.int .i64 x5.1, .string x5.2.1, .string x5.2.2, .slice a23 (List.length l3) c23]) kr (ev (.pointer (some ⟨b10, 3, none⟩))) (ev (.slice a23 (List.length l3) c23)) st kr kr ?_)
         clear st
         intro w32 st
         refine ⟨⟨.inr ⟨Inv.anti st.inv hmS4, Piece.holds_anti st.tail.tail.tail.head hmS4, Piece.holds_anti st.tail.tail.tail.tail.head hmS4, trivial⟩, ⟨.inl rfl, trivial⟩⟩, ?_⟩
         refine WA_done kr ?_
         have st := st.front2
         have st := st.tail
         refine X_then ?_
         refine W_region ?_
         refine WO_one rfl (One_load_own (d := 58) (t := 23) (x := (.tmp 2)) (.slice a11 (List.length s1.1) c11) kr rfl (ev (.pointer (some ⟨b6, 0, none⟩))) st.tail.tail.tail.head kr ?_)
         replace ⟨l4, hx12, hr⟩ := bindS hr
         refine WO_one rfl (One_slice (d := 59) (t := 23) (e := 29) (x := (.tmp 58)) (lo := (some (.const (.int .i64 1)))) (hi := none) (cPair (cInt .i64) (cPair cStr cStr)) kr rfl (ev (.slice a11 (List.length s1.1) c11)) kr r11 (.inr ⟨_, _, rfl, (ev (.int .i64 1))⟩) (.inl ⟨rfl, rfl⟩) hx12 ?_)
         intro a24 c24 r25
         have st := st.front3
         refine WO_one rfl (One_store (t := 23) (x := (.tmp 2)) (y := (.tmp 59)) (v := .slice a24 (List.length l4) c24) (c' := #[.slice a24 (List.length l4) c24]) kr (ev (.pointer (some ⟨b6, 0, none⟩))) (ev (.slice a24 (List.length l4) c24)) st kr kr ?_)
         clear st
         intro w33 st
         refine WO_end rfl ?_
         obtain rfl := Option.some.inj hr
         have st := st.front2.front9.front9.front9.front9.front9.front9.front7.front9.front9
         exact X_env _ kr (Ku5 _ _ ⟨a23, c23, a24, c24, m18, rfl, hm, st, r24, r25, r16, r13⟩)
        ·intro hc
         rw [if_neg (not_true hc)] at hr
         refine W_skip ?_
         obtain rfl := Option.some.inj hr
         have st := st.front9.front9.front9.front9.front9.front9.front9.front9.front9.front9
         exact X_env _ kr (Ku5 _ _ ⟨a15, c15, a11, c11, m14, rfl, hm, st, r15, r11, r16, r13⟩)
      ·intro Ku4
       clear hrKu4
       refine W_cond (decide (o4 ≤ 0)) kr ?_ ?_
       ·intro hc
        rw [if_pos hc] at hr
        refine W_seq ?_
        refine W_draw [(13, fun w' => Inv m12 w' ∧ Piece.holds m12 w' (.blk b5 (.cells #[.slice a12 (List.length s1.2.1) c12] 62 (0, 0))) ∧ True)] kr st ?_
        clear st
        intro w22 _ st
        have hmS3 := m12.le_refl
        refine ⟨⟨.inr ⟨Inv.anti st.inv hmS3, Piece.holds_anti st.tail.tail.tail.head hmS3, trivial⟩, trivial⟩, ?_⟩
        refine WA_load_own (t := 62) (x := (.tmp 1)) 0 33 (.slice a12 (List.length s1.2.1) c12) kr rfl kr (.head _) (QP_then (QP_then (QP_block (QP_then (QP_block QP_body))))) (fun _ h => h.2.1) (ev (.pointer (some ⟨b5, 0, none⟩))) kr ?_
        replace ⟨x3, hx6, hr⟩ := bindS hr
        refine WA_index (t := 62) (e := 111) (x := (.tmp 33)) (y := (.const (.int .i64 0))) 1 34 (cPair (cPair (cInt .i64) (cPair cStr cStr)) (cSl (cInt .i64))) kr rfl kr (.head _) (QP_then (QP_then (QP_block (QP_then (QP_block QP_body))))) (ev (.slice a12 (List.length s1.2.1) c12)) (ev (.int .i64 0)) kr r12 hx6 ?_
        rintro b11 f3 cs3 ⟨_, _, rfl, ⟨_, _, rfl, rfl, ⟨_, _, rfl, rfl, rfl⟩⟩, ⟨a17, c17, rfl, r17⟩⟩ hq3
        refine WA_pure 2 35 (.pointer (some ⟨b11, f3, none⟩)) kr rfl kr (.head _) (QP_then (QP_then (QP_block (QP_then (QP_block QP_body))))) ?_
        refine WA_load_row (t := 29) (x := (.tmp 35)) 3 36 (.agg #[.int .i64 x3.1.1, .string x3.1.2.1, .string x3.1.2.2]) kr rfl kr (.head _) (QP_then (QP_then (QP_block (QP_then (QP_block QP_body))))) (fun _ h => h.1) (ev (.pointer (some ⟨b11, f3, none⟩))) hq3 kr ?_
        refine WA_load_own (t := 62) (x := (.tmp 1)) 4 37 (.slice a12 (List.length s1.2.1) c12) kr rfl kr (.head _) (QP_then (QP_then (QP_block (QP_then (QP_block QP_body))))) (fun _ h => h.2.1) (ev (.pointer (some ⟨b5, 0, none⟩))) kr ?_
        replace ⟨x4, hx7, hr⟩ := bindS hr
        refine WA_index (t := 62) (e := 111) (x := (.tmp 37)) (y := (.const (.int .i64 0))) 5 38 (cPair (cPair (cInt .i64) (cPair cStr cStr)) (cSl (cInt .i64))) kr rfl kr (.head _) (QP_then (QP_then (QP_block (QP_then (QP_block QP_body))))) (ev (.slice a12 (List.length s1.2.1) c12)) (ev (.int .i64 0)) kr r12 hx7 ?_
        rintro b12 f4 cs4 ⟨_, _, rfl, ⟨_, _, rfl, rfl, ⟨_, _, rfl, rfl, rfl⟩⟩, ⟨a18, c18, rfl, r18⟩⟩ hq4
        refine WA_pure 6 39 (.pointer (some ⟨b12, f4 + 3, none⟩)) kr rfl kr (.head _) (QP_then (QP_then (QP_block (QP_then (QP_block QP_body))))) ?_
        refine WA_load_row (t := 22) (x := (.tmp 39)) 7 40 (.slice a18 (List.length x4.2) c18) kr rfl kr (.head _) (QP_then (QP_then (QP_block (QP_then (QP_block QP_body))))) (fun _ h => h.1) (ev (.pointer (some ⟨b12, f4 + 3, none⟩))) (hq4.drop 3) kr ?_
        refine WA_pure 9 42 (.pointer (some ⟨b10, 0, none⟩)) kr rfl kr (.head _) (QP_then (QP_then (QP_block (QP_then (QP_block QP_body))))) ?_
        replace ⟨y4, hx8, hr⟩ := bindS hr
        refine WA_one 8 kr  (One_fn 41 92 #[.slice a18 (List.length x4.2) c18] kr rfl ?_)
        refine (slices_Clone_int_int_ok st r18 hx8).mono ?_
        clear st
        rintro _ w23 ⟨a19, c19, m15, rfl, hle9, st, r19⟩
        refine ⟨_, rfl, ?_⟩
        have hm := Mem.le_trans hm hle9
        have r12 := r12.mono hle9
        have hq3 := hq3.mono hle9
        have r17 := r17.mono hle9
        have hq4 := hq4.mono hle9
        have r18 := r18.mono hle9
        have r11 := r11.mono hle9
        have r13 := r13.mono hle9
        have hmS3 := Mem.le_trans hmS3 hle9
        refine ⟨⟨.inr ⟨Inv.anti st.inv hmS3, Piece.holds_anti st.tail.tail.tail.tail.head hmS3, trivial⟩, trivial⟩, ?_⟩
        have st := st.front1
        refine WA_one 10 kr  (One_store (t := 29) (x := (.tmp 42)) (y := (.tmp 36)) (v := .agg #[.int .i64 x3.1.1, .string x3.1.2.1, .string x3.1.2.2]) (c' := #[.int .i64 x3.1.1, .string x3.1.2.1, .string x3.1.2.2, .slice none (List.length ([] : List (Int))) 0]) kr (ev (.pointer (some ⟨b10, 0, none⟩))) (ev (.agg #[.int .i64 x3.1.1, .string x3.1.2.1, .string x3.1.2.2])) st kr kr ?_)
        clear st
        intro w24 st
        refine ⟨⟨.inr ⟨Inv.anti st.inv hmS3, Piece.holds_anti st.tail.tail.tail.tail.head hmS3, trivial⟩, trivial⟩, ?_⟩
        refine WA_pure 11 43 (.pointer (some ⟨b10, 3, none⟩)) kr rfl kr (.head _) (QP_then (QP_then (QP_block (QP_then (QP_block QP_body))))) ?_
        refine WA_one 12 kr  (One_store (t := 22) (x := (.tmp 43)) (y := (.tmp 41)) (v := .slice a19 (List.length y4) c19) (c' := #[.int .i64 x3.1.1, .string x3.1.2.1, .string x3.1.2.2, .slice a19 (List.length y4) c19]) kr (ev (.pointer (some ⟨b10, 3, none⟩))) (ev (.slice a19 (List.length y4) c19)) st kr kr ?_)
        clear st
        intro w25 st
        refine ⟨⟨.inr ⟨Inv.anti st.inv hmS3, Piece.holds_anti st.tail.tail.tail.tail.head hmS3, trivial⟩, trivial⟩, ?_⟩
        refine WA_done kr ?_
        refine X_then ?_
        refine W_region ?_
        refine WO_one rfl (One_load_own (d := 44) (t := 62) (x := (.tmp 1)) (.slice a12 (List.length s1.2.1) c12) kr rfl (ev (.pointer (some ⟨b5, 0, none⟩))) st.tail.tail.tail.tail.head kr ?_)
        replace ⟨l2, hx9, hr⟩ := bindS hr
        refine WO_one rfl (One_slice (d := 45) (t := 62) (e := 111) (x := (.tmp 44)) (lo := (some (.const (.int .i64 1)))) (hi := none) (cPair (cPair (cInt .i64) (cPair cStr cStr)) (cSl (cInt .i64))) kr rfl (ev (.slice a12 (List.length s1.2.1) c12)) kr r12 (.inr ⟨_, _, rfl, (ev (.int .i64 1))⟩) (.inl ⟨rfl, rfl⟩) hx9 ?_)
        intro a20 c20 r20
        have st := st.front4
        refine WO_one rfl (One_store (t := 62) (x := (.tmp 1)) (y := (.tmp 45)) (v := .slice a20 (List.length l2) c20) (c' := #[.slice a20 (List.length l2) c20]) kr (ev (.pointer (some ⟨b5, 0, none⟩))) (ev (.slice a20 (List.length l2) c20)) st kr kr ?_)
        clear st
        intro w26 st
        refine WO_end rfl ?_
        obtain rfl := Option.some.inj hr
        have st := st.front2.front9.front9.front9.front9.front9.front6.front9.front9.front9
        exact X_env _ kr (Ku4 _ _ ⟨a19, c19, a20, c20, m15, rfl, hm, st, r19, r11, r20, r13⟩)
       ·intro hc
        rw [if_neg (not_true hc)] at hr
        refine W_skip ?_
        obtain rfl := Option.some.inj hr
        have st := st.nilroom 3 1
        have st := st.front9.front9.front9.front9.front9.front9.front9.front9.front9
        exact X_env _ kr (Ku4 _ _ ⟨none, 0, a12, c12, m12, rfl, hm, st, (RepS.nil _ _), r11, r12, r13⟩)
     ·intro Ku3
      clear hrKu3
      refine W_block ?_
      refine W_sr (WO_one rfl (One_load_own (d := 24) (t := 62) (x := (.tmp 1)) (.slice a12 (List.length s1.2.1) c12) kr rfl (ev (.pointer (some ⟨b5, 0, none⟩))) st.tail.tail.head kr ?_))
      refine WO_seg 3 [(23, .bool ((List.length s1.2.1 : Int) == 0))] kr kr ?_
      refine WO_et rfl (W_cond ((List.length s1.2.1 : Int) == 0) kr ?_ ?_)
      ·intro hc
       rw [if_pos hc] at hr
       refine W_region ?_
       refine WO_seg 1 [(5, .int .i64 1)] kr kr ?_
       refine WO_end rfl ?_
       refine X_block ?_
       obtain rfl := Option.some.inj hr
       have st := st.front7.front7.front7.front7.front7.front7.front7.front7
       exact X_env _ kr (Ku3 _ _ ⟨m11, rfl, hm, st, r11, r12, r13⟩)
      ·intro hc
       rw [if_neg (not_true hc)] at hr
       refine W_sr (WO_one rfl (One_load_own (d := 28) (t := 23) (x := (.tmp 2)) (.slice a11 (List.length s1.1) c11) kr rfl (ev (.pointer (some ⟨b6, 0, none⟩))) st.tail.head kr ?_))
       refine WO_seg 3 [(27, .bool ((List.length s1.1 : Int) == 0))] kr kr ?_
       refine WO_et rfl (W_cond ((List.length s1.1 : Int) == 0) kr ?_ ?_)
       ·intro hc
        rw [if_pos hc] at hr
        refine W_region ?_
        refine WO_seg 1 [(5, .int .i64 (-1))] kr kr ?_
        refine WO_end rfl ?_
        refine X_block ?_
        obtain rfl := Option.some.inj hr
        have st := st.front7.front7.front7.front7.front7.front7.front7.front7
        exact X_env _ kr (Ku3 _ _ ⟨m11, rfl, hm, st, r11, r12, r13⟩)
       ·intro hc
        rw [if_neg (not_true hc)] at hr
        refine W_draw [(9, fun w' => Inv m11 w' ∧ Piece.holds m11 w' (.blk b6 (.cells #[.slice a11 (List.length s1.1) c11] 23 (0, 0))) ∧ Piece.holds m11 w' (.blk b5 (.cells #[.slice a12 (List.length s1.2.1) c12] 62 (0, 0))) ∧ True)] kr st ?_
        clear st
        intro w18 _ st
        have hmS2 := m11.le_refl
        refine ⟨⟨.inr ⟨Inv.anti st.inv hmS2, Piece.holds_anti st.tail.head hmS2, Piece.holds_anti st.tail.tail.head hmS2, trivial⟩, trivial⟩, ?_⟩
        refine WA_load_own (t := 62) (x := (.tmp 1)) 0 15 (.slice a12 (List.length s1.2.1) c12) kr rfl kr (.head _) (QP_block (QP_then (QP_block (QP_then (QP_block QP_body))))) (fun _ h => h.2.2.1) (ev (.pointer (some ⟨b5, 0, none⟩))) kr ?_
        replace ⟨x1, hx3, hr⟩ := bindS hr
        refine WA_index (t := 62) (e := 111) (x := (.tmp 15)) (y := (.const (.int .i64 0))) 1 16 (cPair (cPair (cInt .i64) (cPair cStr cStr)) (cSl (cInt .i64))) kr rfl kr (.head _) (QP_block (QP_then (QP_block (QP_then (QP_block QP_body))))) (ev (.slice a12 (List.length s1.2.1) c12)) (ev (.int .i64 0)) kr r12 hx3 ?_
        rintro b8 f1 cs1 ⟨_, _, rfl, ⟨_, _, rfl, rfl, ⟨_, _, rfl, rfl, rfl⟩⟩, ⟨a14, c14, rfl, r14⟩⟩ hq1
        refine WA_pure 2 17 (.pointer (some ⟨b8, f1, none⟩)) kr rfl kr (.head _) (QP_block (QP_then (QP_block (QP_then (QP_block QP_body))))) ?_
        refine WA_load_row (t := 29) (x := (.tmp 17)) 3 18 (.agg #[.int .i64 x1.1.1, .string x1.1.2.1, .string x1.1.2.2]) kr rfl kr (.head _) (QP_block (QP_then (QP_block (QP_then (QP_block QP_body))))) (fun _ h => h.1) (ev (.pointer (some ⟨b8, f1, none⟩))) hq1 kr ?_
        refine WA_load_own (t := 23) (x := (.tmp 2)) 4 19 (.slice a11 (List.length s1.1) c11) kr rfl kr (.head _) (QP_block (QP_then (QP_block (QP_then (QP_block QP_body))))) (fun _ h => h.2.1) (ev (.pointer (some ⟨b6, 0, none⟩))) kr ?_
        replace ⟨x2, hx4, hr⟩ := bindS hr
        refine WA_index (t := 23) (e := 29) (x := (.tmp 19)) (y := (.const (.int .i64 0))) 5 20 (cPair (cInt .i64) (cPair cStr cStr)) kr rfl kr (.head _) (QP_block (QP_then (QP_block (QP_then (QP_block QP_body))))) (ev (.slice a11 (List.length s1.1) c11)) (ev (.int .i64 0)) kr r11 hx4 ?_
        rintro b9 f2 cs2 ⟨_, _, rfl, rfl, ⟨_, _, rfl, rfl, rfl⟩⟩ hq2
        refine WA_load_row (t := 29) (x := (.tmp 20)) 6 21 (.agg #[.int .i64 x2.1, .string x2.2.1, .string x2.2.2]) kr rfl kr (.head _) (QP_block (QP_then (QP_block (QP_then (QP_block QP_body))))) (fun _ h => h.1) (ev (.pointer (some ⟨b9, f2, none⟩))) hq2 kr ?_
        replace ⟨y3, hx5, hr⟩ := bindS hr
        refine WA_one 7 kr  (One_fn 22 67 #[.agg #[.int .i64 x1.1.1, .string x1.1.2.1, .string x1.1.2.2], .agg #[.int .i64 x2.1, .string x2.2.1, .string x2.2.2]] kr rfl ?_)
        refine (fact_Compare_ok st hx5).mono ?_
        clear st
        rintro _ w19 ⟨m13, rfl, hle8, st⟩
        refine ⟨_, rfl, ?_⟩
        have hm := Mem.le_trans hm hle8
        have r12 := r12.mono hle8
        have hq1 := hq1.mono hle8
        have r14 := r14.mono hle8
        have r11 := r11.mono hle8
        have hq2 := hq2.mono hle8
        have r13 := r13.mono hle8
        have hmS2 := Mem.le_trans hmS2 hle8
        refine ⟨⟨.inr ⟨Inv.anti st.inv hmS2, Piece.holds_anti st.tail.head hmS2, Piece.holds_anti st.tail.tail.head hmS2, trivial⟩, trivial⟩, ?_⟩
        refine WA_pure 8 5 (.int .i64 y3) kr rfl kr (.head _) (QP_block (QP_then (QP_block (QP_then (QP_block QP_body))))) ?_
        refine WA_done kr ?_
        refine X_block ?_
        obtain rfl := Option.some.inj hr
        have st := st.front7.front7.front7.front7.front7.front7.front7.front7
        exact X_env _ kr (Ku3 _ _ ⟨m13, rfl, hm, st, r11, r12, r13⟩)
    ·intro hc
     rw [if_neg (not_true hc)] at hr
     refine W_exit ?_
     refine X_then_exit ?_
     obtain rfl := Option.some.inj hr
     have ho := hBu2 _ rfl
     have st := st.front7.front7.front7.front7.front7.front7.front7.front7
     refine X_then_exit ?_
     exact X_env _ kr (K0_u2 _ _ ⟨(s1.1, s1.2.1, s1.2.2), a11, c11, a12, c12, a13, c13, m11, ho, rfl, hm, st, r11, r12, r13⟩)
   ·intro K
    clear hrK
    refine WO_one rfl (One_load_own (d := 7) (t := 62) (x := (.tmp 1)) (.slice a12 (List.length s1.2.1) c12) kr rfl (ev (.pointer (some ⟨b5, 0, none⟩))) st.tail.tail.head kr ?_)
    refine WO_seg 3 [(10, .bool (decide ((List.length s1.2.1 : Int) > 0)))] kr kr ?_
    rcases bcases (decide ((List.length s1.2.1 : Int) > 0)) with hc | hc
    ·rw [if_pos hc] at hr
     refine WO_fact (t := 10) (b := true) (decide ((List.length s1.2.1 : Int) > 0)) kr hc ?_
     refine WO_seg 4 [(14, .bool true)] kr kr ?_
     obtain rfl := Option.some.inj hr
     have st := st.front7.front7.front7.front7.front7.front7.front7.front7
     exact WO_env _ kr (K _ _ ⟨m10, rfl, hm, st, r11, r12, r13⟩)
    ·rw [if_neg (not_true hc)] at hr
     refine WO_fact (t := 10) (b := false) (decide ((List.length s1.2.1 : Int) > 0)) kr hc ?_
     refine WO_one rfl (One_load_own (d := 11) (t := 23) (x := (.tmp 2)) (.slice a11 (List.length s1.1) c11) kr rfl (ev (.pointer (some ⟨b6, 0, none⟩))) st.tail.head kr ?_)
     refine WO_seg 3 [(14, .bool (decide ((List.length s1.1 : Int) > 0)))] kr kr ?_
     obtain rfl := Option.some.inj hr
     have st := st.front7.front7.front7.front7.front7.front7.front7.front7
     exact WO_env _ kr (K _ _ ⟨m10, rfl, hm, st, r11, r12, r13⟩)
def index_Build_L1 (N : Nat) (p0 : List ((ByteArray × ByteArray) × Int × Int × Int × (Int × Int × Int) × Bool × (List ((Int × ByteArray × ByteArray) × Int)))) (s1 : Int) : Option ((Int) ⊕ ((Unit) ⊕ (Int))) :=
 if (decide (s1 < (List.length p0 : Int))) = true then ((idx p0 s1).bind fun x1 => (index_Build_1 N ((x1.1.1, x1.1.2), x1.2.1, x1.2.2.1, x1.2.2.2.1, (x1.2.2.2.2.1.1, x1.2.2.2.2.1.2.1, x1.2.2.2.2.1.2.2), x1.2.2.2.2.2.1, x1.2.2.2.2.2.2)).bind fun y1 => if y1 = true then (some (.inr (.inr (s1)))) else (some (.inl (IntKind.wrap .i64 (s1 + 1))))) else (some (.inr (.inl ())))
def index_Build_L2 (N : Nat) (p0 : List ((ByteArray × ByteArray) × Int × Int × Int × (Int × Int × Int) × Bool × (List ((Int × ByteArray × ByteArray) × Int)))) (s2 : Int × (List ((Int × ByteArray × ByteArray) × List Int)) × Int) : Option ((Int × (List ((Int × ByteArray × ByteArray) × List Int)) × Int) ⊕ (((List ((Int × ByteArray × ByteArray) × List Int)) × Int))) :=
 if (decide (s2.1 < (List.length p0 : Int))) = true then ((idx p0 s2.1).bind fun x2 => (index_grown N (s2.2.1, s2.2.2) ((x2.1.1, x2.1.2), x2.2.1, x2.2.2.1, x2.2.2.2.1, (x2.2.2.2.2.1.1, x2.2.2.2.2.1.2.1, x2.2.2.2.2.1.2.2), x2.2.2.2.2.2.1, x2.2.2.2.2.2.2)).bind fun y2 => some (.inl (IntKind.wrap .i64 (s2.1 + 1), y2.1, y2.2))) else (some (.inr (s2.2.1, s2.2.2)))
def index_Build (N : Nat) (p0 : List ((ByteArray × ByteArray) × Int × Int × Int × (Int × Int × Int) × Bool × (List ((Int × ByteArray × ByteArray) × Int)))) : Option (((List ((Int × ByteArray × ByteArray) × List Int)) × Int) × Int) :=
 if (decide ((List.length p0 : Int) > 512)) = true then (some ((([] : List ((Int × ByteArray × ByteArray) × List Int)), 0), 2)) else (((loopM (index_Build_L1 N p0) N 0).bind fun out1 => (match out1 with | .inl o2 => some (-1) | .inr (z) => some z) : Option (Int)).bind fun o1 => if (decide (o1 ≥ 0)) = true then (some ((([] : List ((Int × ByteArray × ByteArray) × List Int)), 0), 1)) else ((loopM (index_Build_L2 N p0) N (0, ([] : List ((Int × ByteArray × ByteArray) × List Int)), 0)).bind fun o3 => some ((o3.1, o3.2), 0)))
set_option maxHeartbeats 4000000 in
set_option maxRecDepth 100000 in
theorem index_Build_ok {N : Nat} {m : Mem} {own : List Piece} {w : World} {p0 : List ((ByteArray × ByteArray) × Int × Int × Int × (Int × Int × Int) × Bool × (List ((Int × ByteArray × ByteArray) × Int)))} {a1 : Option Addr} {c1 : Nat} {r : ((List ((Int × ByteArray × ByteArray) × List Int)) × Int) × Int} (st : St m (own) w) (r1 : RepS (cPair (cPair cStr cStr) (cPair (cInt .i64) (cPair (cInt .i64) (cPair (cInt .i64) (cPair (cPair (cInt .i64) (cPair (cInt .i64) (cInt .i64))) (cPair cBool (cSl (cPair (cPair (cInt .i64) (cPair cStr cStr)) (cInt .i64))))))))) m a1 c1 p0) (hr : index_Build N p0 = some r) : Calls Tryd.prog 26 #[.slice a1 (List.length p0) c1] w fun e w' => ∃ (ra1 : Option Addr) (rc1 : Nat) (m' : Mem), e = .returned (.tuple #[.agg #[.slice ra1 (List.length r.1.1) rc1, .int .i64 r.1.2], .int .i64 r.2]) ∧ m.le m' ∧ St m' (.room ra1 (List.length r.1.1) rc1 111 4 :: own) w' ∧ RepS (cPair (cPair (cInt .i64) (cPair cStr cStr)) (cSl (cInt .i64))) m' ra1 rc1 r.1.1 := by
 unfold index_Build at hr
 have hm := m.le_refl
 refine W_calls Tryd.func26 rfl Tryd.ntmps26 [(0, .slice a1 (List.length p0) c1)] kr rfl ?_
 refine W_sr (WO_one rfl (One_alloc (d := 2) (e := 64) (.agg #[.slice none 0 0, .int .i64 0]) kr rfl kr st ?_))
 clear st
 intro b1 w1 st
 refine WO_seg 1 [] kr kr ?_
 refine WO_et rfl (W_seq ?_)
 refine W_sr (WO_seg 3 [(9, .bool (decide ((List.length p0 : Int) > 512)))] kr kr ?_)
 refine WO_et rfl (W_cond (decide ((List.length p0 : Int) > 512)) kr ?_ ?_)
 ·intro hc
  rw [if_pos hc] at hr
  refine W_sr (WO_seg 1 [(10, .agg #[.slice none (List.length ([] : List ((Int × ByteArray × ByteArray) × List Int))) 0, .int .i64 0])] kr kr ?_)
  refine WO_one rfl (One_store (t := 64) (x := (.tmp 2)) (y := (.tmp 10)) (v := .agg #[.slice none (List.length ([] : List ((Int × ByteArray × ByteArray) × List Int))) 0, .int .i64 0]) (c' := #[.slice none (List.length ([] : List ((Int × ByteArray × ByteArray) × List Int))) 0, .int .i64 0]) kr (ev (.pointer (some ⟨b1, 0, none⟩))) (ev (.agg #[.slice none (List.length ([] : List ((Int × ByteArray × ByteArray) × List Int))) 0, .int .i64 0])) st kr kr ?_)
  clear st
  intro w2 st
  refine WO_seg 1 [(3, .int .i64 2)] kr kr ?_
  refine WO_et rfl (W_ret ?_)
  refine X_then_ret ?_
  obtain rfl := Option.some.inj hr
  refine X_ret [.cell 2 64, .tmp 3] [.agg #[.slice none (List.length ([] : List ((Int × ByteArray × ByteArray) × List Int))) 0, .int .i64 0], .int .i64 2] rfl (ResAll.cons (ResAt.blk (v := .agg #[.slice none (List.length ([] : List ((Int × ByteArray × ByteArray) × List Int))) 0, .int .i64 0]) (o := 0) kr st.head kr) (ResAll.cons (ResAt.tmp kr) ResAll.nil)) ?_
  have st := st.nilroom 111 4
  have st := st.front1
  have st := st.tail
  exact ⟨none, 0, m, rfl, hm, st, (RepS.nil _ _)⟩
 ·intro hc
  rw [if_neg (not_true hc)] at hr
  refine W_skip ?_
  refine X_then ?_
  refine W_seq ?_
  refine W_sr (WO_seg 1 [(11, .slice a1 (List.length p0) c1)] kr kr ?_)
  refine WO_one rfl (One_fn 12 56 #[.slice a1 (List.length p0) c1, .func (.func 57) #[] #[]] kr rfl ?_)
  refine W_calls Tryd.func56 rfl Tryd.ntmps56 [(0, .slice a1 (List.length p0) c1), (1, .func (.func 57) #[] #[])] kr rfl ?_
  refine W_sr (WO_seg 1 [] kr kr ?_)
  refine WO_et rfl (W_sr ?_)
  refine WO_seg 2 [(5, .slice a1 (List.length p0) c1), (6, .func (.func 57) #[] #[])] kr kr ?_
  replace ⟨o1, hr, hrKu1⟩ := bindS hr
  refine WO_one rfl (One_fn 7 85 #[.slice a1 (List.length p0) c1, .func (.func 57) #[] #[]] kr rfl ?_)
  refine Calls_cut (fun v' w' => ∃ (m1 : Mem), v' = (.int .i64 o1) ∧ m.le m1 ∧ St m1 (.blk b1 (.cells #[.slice none (List.length ([] : List ((Int × ByteArray × ByteArray) × List Int))) 0, .int .i64 0] 64 (0, 0)) :: own) w' ∧ RepS (cPair (cPair cStr cStr) (cPair (cInt .i64) (cPair (cInt .i64) (cPair (cInt .i64) (cPair (cPair (cInt .i64) (cPair (cInt .i64) (cInt .i64))) (cPair cBool (cSl (cPair (cPair (cInt .i64) (cPair cStr cStr)) (cInt .i64))))))))) m1 a1 c1 p0) ?_ ?_
  ·clear hr st
   have hr := hrKu1
   clear hrKu1
   rintro _ w3 ⟨m1, rfl, hm, st, r1⟩
   refine ⟨_, rfl, ?_⟩
   refine WO_seg 2 [(4, .bool (decide (o1 ≥ 0)))] kr kr ?_
   refine WO_et rfl (W_ret ?_)
   refine X_ret [.tmp 4] [.bool (decide (o1 ≥ 0))] rfl (ResAll.cons (ResAt.tmp kr) ResAll.nil) ?_
   refine ⟨_, rfl, ?_⟩
   refine WO_et rfl (W_cond (decide (o1 ≥ 0)) kr ?_ ?_)
   ·intro hc
    rw [if_pos hc] at hr
    refine W_sr (WO_seg 1 [(13, .agg #[.slice none (List.length ([] : List ((Int × ByteArray × ByteArray) × List Int))) 0, .int .i64 0])] kr kr ?_)
    refine WO_one rfl (One_store (t := 64) (x := (.tmp 2)) (y := (.tmp 13)) (v := .agg #[.slice none (List.length ([] : List ((Int × ByteArray × ByteArray) × List Int))) 0, .int .i64 0]) (c' := #[.slice none (List.length ([] : List ((Int × ByteArray × ByteArray) × List Int))) 0, .int .i64 0]) kr (ev (.pointer (some ⟨b1, 0, none⟩))) (ev (.agg #[.slice none (List.length ([] : List ((Int × ByteArray × ByteArray) × List Int))) 0, .int .i64 0])) st kr kr ?_)
    clear st
    intro w7 st
    refine WO_seg 1 [(3, .int .i64 1)] kr kr ?_
    refine WO_et rfl (W_ret ?_)
    refine X_then_ret ?_
    obtain rfl := Option.some.inj hr
    refine X_ret [.cell 2 64, .tmp 3] [.agg #[.slice none (List.length ([] : List ((Int × ByteArray × ByteArray) × List Int))) 0, .int .i64 0], .int .i64 1] rfl (ResAll.cons (ResAt.blk (v := .agg #[.slice none (List.length ([] : List ((Int × ByteArray × ByteArray) × List Int))) 0, .int .i64 0]) (o := 0) kr st.head kr) (ResAll.cons (ResAt.tmp kr) ResAll.nil)) ?_
    have st := st.nilroom 111 4
    have st := st.front1
    have st := st.tail
    exact ⟨none, 0, m1, rfl, hm, st, (RepS.nil _ _)⟩
   ·intro hc
    rw [if_neg (not_true hc)] at hr
    refine W_skip ?_
    refine X_then ?_
    refine W_sr (WO_one rfl (One_alloc (d := 4) (e := 64) (.agg #[.slice none 0 0, .int .i64 0]) kr rfl kr st ?_))
    clear st
    intro b3 w8 st
    refine WO_et rfl (W_seq ?_)
    refine W_sr (WO_seg 3 [(14, .slice a1 (List.length p0) c1), (15, .int .i64 (List.length p0 : Int)), (16, .int .i64 0)] kr kr ?_)
    refine WO_et rfl (W_block ?_)
    replace ⟨out2, hr, hrKu3⟩ := bindS hr
    refine W_cut (.exit 0) (fun L' w' => ∃ (o3 : (List ((Int × ByteArray × ByteArray) × List Int)) × Int) (a3 : Option Addr) (c3 : Nat) (m5 : Mem), o3 = out2 ∧ L' = [(2, .pointer (some ⟨b1, 0, none⟩)), (4, .pointer (some ⟨b3, 0, none⟩))] ∧ m.le m5 ∧ St m5 (.blk b3 (.cells #[.slice a3 (List.length o3.1) c3, .int .i64 o3.2] 64 (0, 0)) :: .blk b1 (.cells #[.slice none (List.length ([] : List ((Int × ByteArray × ByteArray) × List Int))) 0, .int .i64 0] 64 (0, 0)) :: .room a3 (List.length o3.1) c3 111 4 :: own) w' ∧ RepS (cPair (cPair (cInt .i64) (cPair cStr cStr)) (cSl (cInt .i64))) m5 a3 c3 o3.1) ?_ ?_
    ·clear hr st
     rintro _ w9 ⟨o3, a3, c3, m5, rfl, rfl, hm, st, r3⟩
     have hr := hrKu3
     clear hrKu3
     refine X_block_eq ?_
     refine X_then ?_
     refine W_sr (WO_one rfl (One_load_own (d := 24) (t := 64) (x := (.tmp 4)) (.agg #[.slice a3 (List.length o3.1) c3, .int .i64 o3.2]) kr rfl (ev (.pointer (some ⟨b3, 0, none⟩))) st.head kr ?_))
     have st := st.front1
     refine WO_one rfl (One_store (t := 64) (x := (.tmp 2)) (y := (.tmp 24)) (v := .agg #[.slice a3 (List.length o3.1) c3, .int .i64 o3.2]) (c' := #[.slice a3 (List.length o3.1) c3, .int .i64 o3.2]) kr (ev (.pointer (some ⟨b1, 0, none⟩))) (ev (.agg #[.slice a3 (List.length o3.1) c3, .int .i64 o3.2])) st kr kr ?_)
     clear st
     intro w15 st
     refine WO_seg 1 [(3, .int .i64 0)] kr kr ?_
     refine WO_et rfl (W_ret ?_)
     obtain rfl := Option.some.inj hr
     refine X_ret [.cell 2 64, .tmp 3] [.agg #[.slice a3 (List.length o3.1) c3, .int .i64 o3.2], .int .i64 0] rfl (ResAll.cons (ResAt.blk (v := .agg #[.slice a3 (List.length o3.1) c3, .int .i64 o3.2]) (o := 0) kr st.head kr) (ResAll.cons (ResAt.tmp kr) ResAll.nil)) ?_
     have st := st.tail
     have st := st.tail
     exact ⟨a3, c3, m5, rfl, hm, st, r3⟩
    intro K0_u3
    clear hrKu3
    have st := st.nilroom 111 4
    have st := st.front2.front2
    refine W_env _ kr (W_loop (fun k2 L' w' => ∃ (s2 : Int × (List ((Int × ByteArray × ByteArray) × List Int)) × Int) (a4 : Option Addr) (c4 : Nat) (m6 : Mem), loopM (index_Build_L2 N p0) k2 s2 = some out2 ∧ L' = [(2, .pointer (some ⟨b1, 0, none⟩)), (4, .pointer (some ⟨b3, 0, none⟩)), (14, .slice a1 (List.length p0) c1), (15, .int .i64 (List.length p0 : Int)), (16, .int .i64 s2.1)] ∧ m.le m6 ∧ St m6 (.blk b3 (.cells #[.slice a4 (List.length s2.2.1) c4, .int .i64 s2.2.2] 64 (0, 0)) :: .blk b1 (.cells #[.slice none (List.length ([] : List ((Int × ByteArray × ByteArray) × List Int))) 0, .int .i64 0] 64 (0, 0)) :: .room a4 (List.length s2.2.1) c4 111 4 :: own) w' ∧ RepS (cPair (cPair cStr cStr) (cPair (cInt .i64) (cPair (cInt .i64) (cPair (cInt .i64) (cPair (cPair (cInt .i64) (cPair (cInt .i64) (cInt .i64))) (cPair cBool (cSl (cPair (cPair (cInt .i64) (cPair cStr cStr)) (cInt .i64))))))))) m6 a1 c1 p0 ∧ RepS (cPair (cPair (cInt .i64) (cPair cStr cStr)) (cSl (cInt .i64))) m6 a4 c4 s2.2.1) N ⟨(0, ([] : List ((Int × ByteArray × ByteArray) × List Int)), 0), none, 0, m1, hr, rfl, hm, st, r1, (RepS.nil _ _)⟩ ?_)
    clear st hr
    rintro k2 _ w10 ⟨s2, a4, c4, m6, hL, rfl, hm, st, r1, r4⟩
    rcases k2 with _ | k2
    ·exact loopM_zero hL
    ·obtain ⟨qu3, hr, hSu3, hBu3⟩ := loopM_succ hL
     clear hL
     unfold index_Build_L2 at hr
     refine W_sr (WO_seg 1 [(17, .bool (decide (s2.1 < (List.length p0 : Int))))] kr kr ?_)
     refine WO_et rfl (W_seq ?_)
     refine W_cond (decide (s2.1 < (List.length p0 : Int))) kr ?_ ?_
     ·intro hc
      rw [if_pos hc] at hr
      refine W_skip ?_
      refine X_then ?_
      refine W_seq ?_
      refine W_block ?_
      refine W_sr ?_
      replace ⟨x2, hx3, hr⟩ := bindS hr
      refine WO_one rfl (One_index (d := 18) (t := 60) (e := 73) (x := (.tmp 14)) (y := (.tmp 16)) (cPair (cPair cStr cStr) (cPair (cInt .i64) (cPair (cInt .i64) (cPair (cInt .i64) (cPair (cPair (cInt .i64) (cPair (cInt .i64) (cInt .i64))) (cPair cBool (cSl (cPair (cPair (cInt .i64) (cPair cStr cStr)) (cInt .i64))))))))) kr rfl (ev (.slice a1 (List.length p0) c1)) (ev (.int .i64 s2.1)) kr r1 hx3 ?_)
      rintro b4 f2 cs2 ⟨_, _, rfl, ⟨_, _, rfl, rfl, rfl⟩, ⟨_, _, rfl, rfl, ⟨_, _, rfl, rfl, ⟨_, _, rfl, rfl, ⟨_, _, rfl, ⟨_, _, rfl, rfl, ⟨_, _, rfl, rfl, rfl⟩⟩, ⟨_, _, rfl, rfl, ⟨a5, c5, rfl, r5⟩⟩⟩⟩⟩⟩⟩ hq2
      refine WO_one rfl (One_load_row (d := 19) (t := 73) (x := (.tmp 18)) (.agg #[.string x2.1.1, .string x2.1.2, .int .i64 x2.2.1, .int .i64 x2.2.2.1, .int .i64 x2.2.2.2.1, .int .i64 x2.2.2.2.2.1.1, .int .i64 x2.2.2.2.2.1.2.1, .int .i64 x2.2.2.2.2.1.2.2, .bool x2.2.2.2.2.2.1, .slice a5 (List.length x2.2.2.2.2.2.2) c5]) kr rfl (ev (.pointer (some ⟨b4, f2, none⟩))) st hq2 kr ?_)
      refine WO_one rfl (One_alloc (d := 6) (e := 73) (.agg #[.string (⟨#[]⟩ : ByteArray), .string (⟨#[]⟩ : ByteArray), .int .i64 0, .int .i64 0, .int .i64 0, .int .i64 0, .int .i64 0, .int .i64 0, .bool false, .slice none 0 0]) kr rfl kr st ?_)
      clear st
      intro b5 w11 st
      refine WO_one rfl (One_store (t := 73) (x := (.tmp 6)) (y := (.tmp 19)) (v := .agg #[.string x2.1.1, .string x2.1.2, .int .i64 x2.2.1, .int .i64 x2.2.2.1, .int .i64 x2.2.2.2.1, .int .i64 x2.2.2.2.2.1.1, .int .i64 x2.2.2.2.2.1.2.1, .int .i64 x2.2.2.2.2.1.2.2, .bool x2.2.2.2.2.2.1, .slice a5 (List.length x2.2.2.2.2.2.2) c5]) (c' := #[.string x2.1.1, .string x2.1.2, .int .i64 x2.2.1, .int .i64 x2.2.2.1, .int .i64 x2.2.2.2.1, .int .i64 x2.2.2.2.2.1.1, .int .i64 x2.2.2.2.2.1.2.1, .int .i64 x2.2.2.2.2.1.2.2, .bool x2.2.2.2.2.2.1, .slice a5 (List.length x2.2.2.2.2.2.2) c5]) kr (ev (.pointer (some ⟨b5, 0, none⟩))) (ev (.agg #[.string x2.1.1, .string x2.1.2, .int .i64 x2.2.1, .int .i64 x2.2.2.1, .int .i64 x2.2.2.2.1, .int .i64 x2.2.2.2.2.1.1, .int .i64 x2.2.2.2.2.1.2.1, .int .i64 x2.2.2.2.2.1.2.2, .bool x2.2.2.2.2.2.1, .slice a5 (List.length x2.2.2.2.2.2.2) c5])) st kr kr ?_)
      clear st
      intro w12 st
      refine WO_et rfl (W_region ?_)
      refine WO_one rfl (One_load_own (d := 20) (t := 64) (x := (.tmp 4)) (.agg #[.slice a4 (List.length s2.2.1) c4, .int .i64 s2.2.2]) kr rfl (ev (.pointer (some ⟨b3, 0, none⟩))) st.tail.head kr ?_)
      refine WO_one rfl (One_load_own (d := 21) (t := 73) (x := (.tmp 6)) (.agg #[.string x2.1.1, .string x2.1.2, .int .i64 x2.2.1, .int .i64 x2.2.2.1, .int .i64 x2.2.2.2.1, .int .i64 x2.2.2.2.2.1.1, .int .i64 x2.2.2.2.2.1.2.1, .int .i64 x2.2.2.2.2.1.2.2, .bool x2.2.2.2.2.2.1, .slice a5 (List.length x2.2.2.2.2.2.2) c5]) kr rfl (ev (.pointer (some ⟨b5, 0, none⟩))) st.head kr ?_)
      replace ⟨y2, hx4, hr⟩ := bindS hr
      refine WO_one rfl (One_fn 22 59 #[.agg #[.slice a4 (List.length s2.2.1) c4, .int .i64 s2.2.2], .agg #[.string x2.1.1, .string x2.1.2, .int .i64 x2.2.1, .int .i64 x2.2.2.1, .int .i64 x2.2.2.2.1, .int .i64 x2.2.2.2.2.1.1, .int .i64 x2.2.2.2.2.1.2.1, .int .i64 x2.2.2.2.2.1.2.2, .bool x2.2.2.2.2.2.1, .slice a5 (List.length x2.2.2.2.2.2.2) c5]] kr rfl ?_)
      refine (index_grown_ok st r4 r5 hx4).mono ?_
      clear st
      rintro _ w13 ⟨a6, c6, m7, rfl, hle2, st, r6⟩
      refine ⟨_, rfl, ?_⟩
      have hm := Mem.le_trans hm hle2
      have r1 := r1.mono hle2
      have r4 := r4.mono hle2
      have r5 := r5.mono hle2
      have st := st.front2
      refine WO_one rfl (One_store (t := 64) (x := (.tmp 4)) (y := (.tmp 22)) (v := .agg #[.slice a6 (List.length y2.1) c6, .int .i64 y2.2]) (c' := #[.slice a6 (List.length y2.1) c6, .int .i64 y2.2]) kr (ev (.pointer (some ⟨b3, 0, none⟩))) (ev (.agg #[.slice a6 (List.length y2.1) c6, .int .i64 y2.2])) st kr kr ?_)
      clear st
      intro w14 st
      refine WO_end rfl ?_
      have st := st.front4
      have st := st.tail
      refine X_block ?_
      refine X_then ?_
      refine W_region ?_
      refine WO_seg 2 [(16, .int .i64 (IntKind.wrap .i64 (s2.1 + 1)))] kr kr ?_
      refine WO_end rfl ?_
      obtain rfl := Option.some.inj hr
      have hL := hSu3 _ rfl
      have st := st.front2
      have st := st.tail
      have st := st.front1.front2.front2
      exact X_env _ kr (X_round k2 (Nat.lt_succ_self _) ⟨(IntKind.wrap .i64 (s2.1 + 1), y2.1, y2.2), a6, c6, m7, hL, rfl, hm, st, r1, r6⟩)
     ·intro hc
      rw [if_neg (not_true hc)] at hr
      refine W_exit ?_
      refine X_then_exit ?_
      obtain rfl := Option.some.inj hr
      have ho := hBu3 _ rfl
      have st := st.front2.front2.front2
      refine X_then_exit ?_
      exact X_env _ kr (K0_u3 _ _ ⟨(s2.2.1, s2.2.2), a4, c4, m6, ho, rfl, hm, st, r4⟩)
  ·clear hrKu1
   refine W_calls Tryd.func85 rfl Tryd.ntmps85 [(0, .slice a1 (List.length p0) c1), (1, .func (.func 57) #[] #[])] kr rfl ?_
   refine W_sr (WO_seg 1 [] kr kr ?_)
   refine WO_et rfl (W_seq ?_)
   refine W_sr (WO_seg 3 [(7, .int .i64 (List.length p0 : Int)), (8, .int .i64 0)] kr kr ?_)
   refine WO_et rfl (W_block ?_)
   replace ⟨out1, hr, hrKu2⟩ := bindS hr
   refine W_cut (.exit 0) (fun L' w' => ∃ (o2 : Unit) (m2 : Mem), (.inl o2) = out1 ∧ L' = [] ∧ m.le m2 ∧ St m2 (.blk b1 (.cells #[.slice none (List.length ([] : List ((Int × ByteArray × ByteArray) × List Int))) 0, .int .i64 0] 64 (0, 0)) :: own) w' ∧ RepS (cPair (cPair cStr cStr) (cPair (cInt .i64) (cPair (cInt .i64) (cPair (cInt .i64) (cPair (cPair (cInt .i64) (cPair (cInt .i64) (cInt .i64))) (cPair cBool (cSl (cPair (cPair (cInt .i64) (cPair cStr cStr)) (cInt .i64))))))))) m2 a1 c1 p0) ?_ ?_
   ·clear hr st
    rintro _ w4 ⟨o2, m2, rfl, rfl, hm, st, r1⟩
    have hr := hrKu2
    clear hrKu2
    dsimp only at hr
    refine X_block_eq ?_
    refine X_then ?_
    refine W_sr (WO_seg 1 [(4, .int .i64 (-1))] kr kr ?_)
    refine WO_et rfl (W_ret ?_)
    obtain rfl := Option.some.inj hr
    refine X_ret [.tmp 4] [.int .i64 (-1)] rfl (ResAll.cons (ResAt.tmp kr) ResAll.nil) ?_
    exact ⟨_, rfl, ⟨m2, rfl, hm, st, r1⟩⟩
   intro K0_u2
   refine W_env _ kr (W_loop (fun k1 L' w' => ∃ (s1 : Int) (m3 : Mem), loopM (index_Build_L1 N p0) k1 s1 = some out1 ∧ L' = [(0, .slice a1 (List.length p0) c1), (1, .func (.func 57) #[] #[]), (7, .int .i64 (List.length p0 : Int)), (8, .int .i64 s1)] ∧ m.le m3 ∧ St m3 (.blk b1 (.cells #[.slice none (List.length ([] : List ((Int × ByteArray × ByteArray) × List Int))) 0, .int .i64 0] 64 (0, 0)) :: own) w' ∧ RepS (cPair (cPair cStr cStr) (cPair (cInt .i64) (cPair (cInt .i64) (cPair (cInt .i64) (cPair (cPair (cInt .i64) (cPair (cInt .i64) (cInt .i64))) (cPair cBool (cSl (cPair (cPair (cInt .i64) (cPair cStr cStr)) (cInt .i64))))))))) m3 a1 c1 p0) N ⟨0, m, hr, rfl, hm, st, r1⟩ ?_)
   clear st hr
   rintro k1 _ w5 ⟨s1, m3, hL, rfl, hm, st, r1⟩
   rcases k1 with _ | k1
   ·exact loopM_zero hL
   ·obtain ⟨qu2, hr, hSu2, hBu2⟩ := loopM_succ hL
    clear hL
    unfold index_Build_L1 at hr
    refine W_sr (WO_seg 1 [(9, .bool (decide (s1 < (List.length p0 : Int))))] kr kr ?_)
    refine WO_et rfl (W_seq ?_)
    refine W_cond (decide (s1 < (List.length p0 : Int))) kr ?_ ?_
    ·intro hc
     rw [if_pos hc] at hr
     refine W_skip ?_
     refine X_then ?_
     refine W_seq ?_
     refine W_block ?_
     refine W_sr (WO_seg 2 [(5, .int .i64 s1)] kr kr ?_)
     refine WO_et rfl (W_sr ?_)
     refine WO_seg 3 [(11, .func (.func 57) #[] #[]), (12, .slice a1 (List.length p0) c1), (13, .int .i64 s1)] kr kr ?_
     replace ⟨x1, hx1, hr⟩ := bindS hr
     refine WO_one rfl (One_index (d := 14) (t := 60) (e := 73) (x := (.tmp 12)) (y := (.tmp 13)) (cPair (cPair cStr cStr) (cPair (cInt .i64) (cPair (cInt .i64) (cPair (cInt .i64) (cPair (cPair (cInt .i64) (cPair (cInt .i64) (cInt .i64))) (cPair cBool (cSl (cPair (cPair (cInt .i64) (cPair cStr cStr)) (cInt .i64))))))))) kr rfl (ev (.slice a1 (List.length p0) c1)) (ev (.int .i64 s1)) kr r1 hx1 ?_)
     rintro b2 f1 cs1 ⟨_, _, rfl, ⟨_, _, rfl, rfl, rfl⟩, ⟨_, _, rfl, rfl, ⟨_, _, rfl, rfl, ⟨_, _, rfl, rfl, ⟨_, _, rfl, ⟨_, _, rfl, rfl, ⟨_, _, rfl, rfl, rfl⟩⟩, ⟨_, _, rfl, rfl, ⟨a2, c2, rfl, r2⟩⟩⟩⟩⟩⟩⟩ hq1
     refine WO_one rfl (One_load_row (d := 15) (t := 73) (x := (.tmp 14)) (.agg #[.string x1.1.1, .string x1.1.2, .int .i64 x1.2.1, .int .i64 x1.2.2.1, .int .i64 x1.2.2.2.1, .int .i64 x1.2.2.2.2.1.1, .int .i64 x1.2.2.2.2.1.2.1, .int .i64 x1.2.2.2.2.1.2.2, .bool x1.2.2.2.2.2.1, .slice a2 (List.length x1.2.2.2.2.2.2) c2]) kr rfl (ev (.pointer (some ⟨b2, f1, none⟩))) st hq1 kr ?_)
     replace ⟨y1, hx2, hr⟩ := bindS hr
     refine WO_one rfl (One_fn 16 57 #[.agg #[.string x1.1.1, .string x1.1.2, .int .i64 x1.2.1, .int .i64 x1.2.2.1, .int .i64 x1.2.2.2.1, .int .i64 x1.2.2.2.2.1.1, .int .i64 x1.2.2.2.2.1.2.1, .int .i64 x1.2.2.2.2.1.2.2, .bool x1.2.2.2.2.2.1, .slice a2 (List.length x1.2.2.2.2.2.2) c2]] kr rfl ?_)
     refine (index_Build_1_ok st r2 hx2).mono ?_
     clear st
     rintro _ w6 ⟨m4, rfl, hle1, st⟩
     refine ⟨_, rfl, ?_⟩
     have hm := Mem.le_trans hm hle1
     have r1 := r1.mono hle1
     have hq1 := hq1.mono hle1
     have r2 := r2.mono hle1
     refine WO_et rfl (W_cond y1 kr ?_ ?_)
     ·intro hc
      rw [if_pos hc] at hr
      refine W_sr (WO_seg 2 [(4, .int .i64 s1)] kr kr ?_)
      refine WO_et rfl (W_ret ?_)
      refine X_block_ret ?_
      refine X_then_ret ?_
      obtain rfl := Option.some.inj hr
      have ho := hBu2 _ rfl
      subst ho
      have hr := hrKu2
      dsimp only at hr
      refine X_then_ret ?_
      refine X_block_ret ?_
      refine X_then_ret ?_
      obtain rfl := Option.some.inj hr
      refine X_ret [.tmp 4] [.int .i64 s1] rfl (ResAll.cons (ResAt.tmp kr) ResAll.nil) ?_
      exact ⟨_, rfl, ⟨m4, rfl, hm, st, r1⟩⟩
     ·intro hc
      rw [if_neg (not_true hc)] at hr
      refine W_skip ?_
      refine X_block ?_
      refine X_then ?_
      refine W_region ?_
      refine WO_seg 2 [(8, .int .i64 (IntKind.wrap .i64 (s1 + 1)))] kr kr ?_
      refine WO_end rfl ?_
      obtain rfl := Option.some.inj hr
      have hL := hSu2 _ rfl
      exact X_env _ kr (X_round k1 (Nat.lt_succ_self _) ⟨IntKind.wrap .i64 (s1 + 1), m4, hL, rfl, hm, st, r1⟩)
    ·intro hc
     rw [if_neg (not_true hc)] at hr
     refine W_exit ?_
     refine X_then_exit ?_
     obtain rfl := Option.some.inj hr
     have ho := hBu2 _ rfl
     refine X_then_exit ?_
     exact X_env _ kr (K0_u2 _ _ ⟨(), m3, ho, rfl, hm, st, r1⟩)
def index_Check_L2 (N : Nat) (p0 : (List ((Int × ByteArray × ByteArray) × List Int)) × Int) (x1 : (Int × ByteArray × ByteArray) × List Int) (s2 : Int) : Option ((Int) ⊕ ((Unit) ⊕ (Bool))) :=
 if (decide (s2 < (List.length x1.2 : Int))) = true then ((idx x1.2 s2).bind fun x3 => (if (decide (x3 < 0)) = true then (some true) else (if (decide (x3 ≥ p0.2)) = true then (some true) else (if (decide (s2 > 0)) = true then ((idx x1.2 (IntKind.wrap .i64 (s2 - 1))).bind fun x4 => some (decide (x3 ≤ x4))) else (some false))) : Option (Bool)).bind fun o5 => if o5 = true then (some (.inr (.inr (false)))) else (some (.inl (IntKind.wrap .i64 (s2 + 1))))) else (some (.inr (.inl ())))
def index_Check_L1 (N : Nat) (p0 : (List ((Int × ByteArray × ByteArray) × List Int)) × Int) (s1 : Int) : Option ((Int) ⊕ ((Unit) ⊕ (Bool))) :=
 if (decide (s1 < (List.length p0.1 : Int))) = true then ((idx p0.1 s1).bind fun x1 => ((fact_Check N (x1.1.1, x1.1.2.1, x1.1.2.2)).bind fun y1 => if (!y1) = true then (some true) else (if (decide (s1 > 0)) = true then ((idx p0.1 (IntKind.wrap .i64 (s1 - 1))).bind fun x2 => (fact_Compare N (x2.1.1, x2.1.2.1, x2.1.2.2) (x1.1.1, x1.1.2.1, x1.1.2.2)).bind fun y2 => if (decide (y2 ≥ 0)) = true then (some true) else (some ((List.length x1.2 : Int) == 0))) else (some ((List.length x1.2 : Int) == 0))) : Option (Bool)).bind fun o3 => if o3 = true then (some (.inr (.inr (false)))) else ((loopM (index_Check_L2 N p0 x1) N 0).bind fun out2 => (match out2 with | .inl o4 => some (.inl (IntKind.wrap .i64 (s1 + 1))) | .inr (z) => some (.inr (.inr (z)))))) else (some (.inr (.inl ())))
def index_Check (N : Nat) (p0 : (List ((Int × ByteArray × ByteArray) × List Int)) × Int) : Option (Bool) :=
 (if (decide (p0.2 < 0)) = true then (some true) else (some (decide (p0.2 > 512))) : Option (Bool)).bind fun o1 => if o1 = true then (some false) else ((loopM (index_Check_L1 N p0) N 0).bind fun out1 => (match out1 with | .inl o2 => some true | .inr (z) => some z))
set_option maxHeartbeats 4000000 in
set_option maxRecDepth 100000 in
theorem index_Check_ok {N : Nat} {m : Mem} {own : List Piece} {w : World} {p0 : (List ((Int × ByteArray × ByteArray) × List Int)) × Int} {a1 : Option Addr} {c1 : Nat} {r : Bool} (st : St m (own) w) (r1 : RepS (cPair (cPair (cInt .i64) (cPair cStr cStr)) (cSl (cInt .i64))) m a1 c1 p0.1) (hr : index_Check N p0 = some r) : Calls Tryd.prog 60 #[.agg #[.slice a1 (List.length p0.1) c1, .int .i64 p0.2]] w fun e w' => ∃ (m' : Mem), e = .returned (.bool r) ∧ m.le m' ∧ St m' (own) w' := by
 unfold index_Check at hr
 have hm := m.le_refl
 refine W_calls Tryd.func60 rfl Tryd.ntmps60 [(0, .agg #[.slice a1 (List.length p0.1) c1, .int .i64 p0.2])] kr rfl ?_
 refine W_sr (WO_one rfl (One_box (d := 1) (e := 64) (x := (.tmp 0)) (.agg #[.slice a1 (List.length p0.1) c1, .int .i64 p0.2]) kr rfl kr st ?_))
 clear st
 intro b1 m1 w1 hle1 st hb1
 have hm := Mem.le_trans hm hle1
 have r1 := r1.mono hle1
 refine WO_seg 1 [] kr kr ?_
 refine WO_et rfl (W_seq ?_)
 refine W_sr ?_
 replace ⟨o1, hr, hrK⟩ := bindS hr
 refine WO_cut (j := 8) (fun L' w' => ∃ (m2 : Mem), L' = [(1, .pointer (some ⟨b1, 0, none⟩)), (14, .bool o1)] ∧ m.le m2 ∧ St m2 (own) w' ∧ MRow m2 b1 0 [.slice a1 (List.length p0.1) c1, .int .i64 p0.2] ∧ RepS (cPair (cPair (cInt .i64) (cPair cStr cStr)) (cSl (cInt .i64))) m2 a1 c1 p0.1) ?_ ?_
 ·clear hr st
  have hr := hrK
  clear hrK
  rintro _ w2 ⟨m2, rfl, hm, st, hb1, r1⟩
  refine WO_et rfl (W_cond o1 kr ?_ ?_)
  ·intro hc
   rw [if_pos hc] at hr
   refine W_sr (WO_seg 1 [(2, .bool false)] kr kr ?_)
   refine WO_et rfl (W_ret ?_)
   refine X_then_ret ?_
   obtain rfl := Option.some.inj hr
   refine X_ret [.tmp 2] [.bool false] rfl (ResAll.cons (ResAt.tmp kr) ResAll.nil) ?_
   exact ⟨m2, rfl, hm, st⟩
  ·intro hc
   rw [if_neg (not_true hc)] at hr
   refine W_skip ?_
   refine X_then ?_
   refine W_seq ?_
   refine W_sr (WO_seg 1 [(15, .pointer (some ⟨b1, 0, none⟩))] kr kr ?_)
   refine WO_one rfl (One_load_row (d := 16) (t := 62) (x := (.tmp 15)) (.slice a1 (List.length p0.1) c1) kr rfl (ev (.pointer (some ⟨b1, 0, none⟩))) st hb1 kr ?_)
   refine WO_seg 2 [(17, .int .i64 (List.length p0.1 : Int)), (18, .int .i64 0)] kr kr ?_
   refine WO_et rfl (W_block ?_)
   replace ⟨out1, hr, hrKu1⟩ := bindS hr
   refine W_cut (.exit 0) (fun L' w' => ∃ (o2 : Unit) (m3 : Mem), (.inl o2) = out1 ∧ L' = [] ∧ m.le m3 ∧ St m3 (own) w') ?_ ?_
   ·clear hr st
    rintro _ w3 ⟨o2, m3, rfl, rfl, hm, st⟩
    have hr := hrKu1
    clear hrKu1
    dsimp only at hr
    refine X_block_eq ?_
    refine X_then ?_
    refine W_sr (WO_seg 1 [(2, .bool true)] kr kr ?_)
    refine WO_et rfl (W_ret ?_)
    obtain rfl := Option.some.inj hr
    refine X_ret [.tmp 2] [.bool true] rfl (ResAll.cons (ResAt.tmp kr) ResAll.nil) ?_
    exact ⟨m3, rfl, hm, st⟩
   intro K0_u1
   refine W_env _ kr (W_loop (fun k1 L' w' => ∃ (s1 : Int) (m4 : Mem), loopM (index_Check_L1 N p0) k1 s1 = some out1 ∧ L' = [(1, .pointer (some ⟨b1, 0, none⟩)), (16, .slice a1 (List.length p0.1) c1), (17, .int .i64 (List.length p0.1 : Int)), (18, .int .i64 s1)] ∧ m.le m4 ∧ St m4 (own) w' ∧ MRow m4 b1 0 [.slice a1 (List.length p0.1) c1, .int .i64 p0.2] ∧ RepS (cPair (cPair (cInt .i64) (cPair cStr cStr)) (cSl (cInt .i64))) m4 a1 c1 p0.1) N ⟨0, m2, hr, rfl, hm, st, hb1, r1⟩ ?_)
   clear st hr
   rintro k1 _ w4 ⟨s1, m4, hL, rfl, hm, st, hb1, r1⟩
   rcases k1 with _ | k1
   ·exact loopM_zero hL
   ·obtain ⟨qu1, hr, hSu1, hBu1⟩ := loopM_succ hL
    clear hL
    unfold index_Check_L1 at hr
    refine W_sr (WO_seg 1 [(19, .bool (decide (s1 < (List.length p0.1 : Int))))] kr kr ?_)
    refine WO_et rfl (W_seq ?_)
    refine W_cond (decide (s1 < (List.length p0.1 : Int))) kr ?_ ?_
    ·intro hc
     rw [if_pos hc] at hr
     refine W_skip ?_
     refine X_then ?_
     refine W_seq ?_
     refine W_block ?_
     refine W_sr (WO_seg 1 [(20, .int .i64 s1)] kr kr ?_)
     replace ⟨x1, hx1, hr⟩ := bindS hr
     refine WO_one rfl (One_index (d := 21) (t := 62) (e := 111) (x := (.tmp 16)) (y := (.tmp 18)) (cPair (cPair (cInt .i64) (cPair cStr cStr)) (cSl (cInt .i64))) kr rfl (ev (.slice a1 (List.length p0.1) c1)) (ev (.int .i64 s1)) kr r1 hx1 ?_)
     rintro b2 f1 cs1 ⟨_, _, rfl, ⟨_, _, rfl, rfl, ⟨_, _, rfl, rfl, rfl⟩⟩, ⟨a2, c2, rfl, r2⟩⟩ hq1
     refine WO_one rfl (One_load_row (d := 22) (t := 111) (x := (.tmp 21)) (.agg #[.int .i64 x1.1.1, .string x1.1.2.1, .string x1.1.2.2, .slice a2 (List.length x1.2) c2]) kr rfl (ev (.pointer (some ⟨b2, f1, none⟩))) st hq1 kr ?_)
     refine WO_one rfl (One_alloc (d := 4) (e := 111) (.agg #[.int .i64 0, .string (⟨#[]⟩ : ByteArray), .string (⟨#[]⟩ : ByteArray), .slice none 0 0]) kr rfl kr st ?_)
     clear st
     intro b3 w5 st
     refine WO_seg 1 [(3, .int .i64 s1)] kr kr ?_
     refine WO_one rfl (One_store (t := 111) (x := (.tmp 4)) (y := (.tmp 22)) (v := .agg #[.int .i64 x1.1.1, .string x1.1.2.1, .string x1.1.2.2, .slice a2 (List.length x1.2) c2]) (c' := #[.int .i64 x1.1.1, .string x1.1.2.1, .string x1.1.2.2, .slice a2 (List.length x1.2) c2]) kr (ev (.pointer (some ⟨b3, 0, none⟩))) (ev (.agg #[.int .i64 x1.1.1, .string x1.1.2.1, .string x1.1.2.2, .slice a2 (List.length x1.2) c2])) st kr kr ?_)
     clear st
     intro w6 st
     refine WO_et rfl (W_seq ?_)
     refine W_seq ?_
     replace ⟨o3, hr, hrK⟩ := bindS hr
     refine W_cut .normal (fun L' w' => ∃ (m5 : Mem), L' = [(1, .pointer (some ⟨b1, 0, none⟩)), (4, .pointer (some ⟨b3, 0, none⟩)), (16, .slice a1 (List.length p0.1) c1), (17, .int .i64 (List.length p0.1 : Int)), (18, .int .i64 s1), (49, .bool o3)] ∧ m.le m5 ∧ St m5 (.blk b3 (.cells #[.int .i64 x1.1.1, .string x1.1.2.1, .string x1.1.2.2, .slice a2 (List.length x1.2) c2] 111 (0, 0)) :: own) w' ∧ MRow m5 b1 0 [.slice a1 (List.length p0.1) c1, .int .i64 p0.2] ∧ RepS (cPair (cPair (cInt .i64) (cPair cStr cStr)) (cSl (cInt .i64))) m5 a1 c1 p0.1 ∧ RepS (cInt .i64) m5 a2 c2 x1.2) ?_ ?_
     ·clear hr st
      have hr := hrK
      clear hrK
      rintro _ w7 ⟨m5, rfl, hm, st, hb1, r1, r2⟩
      refine X_then ?_
      refine W_cond o3 kr ?_ ?_
      ·intro hc
       rw [if_pos hc] at hr
       refine W_sr (WO_seg 1 [(2, .bool false)] kr kr ?_)
       refine WO_et rfl (W_ret ?_)
       refine X_then_ret ?_
       refine X_block_ret ?_
       refine X_then_ret ?_
       obtain rfl := Option.some.inj hr
       have ho := hBu1 _ rfl
       subst ho
       have hr := hrKu1
       dsimp only at hr
       refine X_then_ret ?_
       refine X_block_ret ?_
       refine X_then_ret ?_
       obtain rfl := Option.some.inj hr
       refine X_ret [.tmp 2] [.bool false] rfl (ResAll.cons (ResAt.tmp kr) ResAll.nil) ?_
       have st := st.tail
       exact ⟨m5, rfl, hm, st⟩
      ·intro hc
       rw [if_neg (not_true hc)] at hr
       refine W_skip ?_
       refine X_then ?_
       refine W_sr (WO_seg 1 [(50, .pointer (some ⟨b3, 3, none⟩))] kr kr ?_)
       refine WO_one rfl (One_load_own (d := 51) (t := 22) (x := (.tmp 50)) (.slice a2 (List.length x1.2) c2) kr rfl (ev (.pointer (some ⟨b3, 3, none⟩))) st.head kr ?_)
       refine WO_seg 2 [(52, .int .i64 (List.length x1.2 : Int)), (53, .int .i64 0)] kr kr ?_
       refine WO_et rfl (W_block ?_)
       replace ⟨out2, hr, hrKu2⟩ := bindS hr
       refine W_cut (.exit 2) (fun L' w' => ∃ (o4 : Unit) (m8 : Mem), (.inl o4) = out2 ∧ L' = [(1, .pointer (some ⟨b1, 0, none⟩)), (16, .slice a1 (List.length p0.1) c1), (17, .int .i64 (List.length p0.1 : Int)), (18, .int .i64 s1)] ∧ m.le m8 ∧ St m8 (.blk b3 (.cells #[.int .i64 x1.1.1, .string x1.1.2.1, .string x1.1.2.2, .slice a2 (List.length x1.2) c2] 111 (0, 0)) :: own) w' ∧ MRow m8 b1 0 [.slice a1 (List.length p0.1) c1, .int .i64 p0.2] ∧ RepS (cPair (cPair (cInt .i64) (cPair cStr cStr)) (cSl (cInt .i64))) m8 a1 c1 p0.1 ∧ RepS (cInt .i64) m8 a2 c2 x1.2) ?_ ?_
       ·clear hr st
        rintro _ w11 ⟨o4, m8, rfl, rfl, hm, st, hb1, r1, r2⟩
        have hr := hrKu2
        clear hrKu2
        dsimp only at hr
        refine X_block_eq ?_
        refine X_block ?_
        refine X_then ?_
        refine W_region ?_
        refine WO_seg 2 [(18, .int .i64 (IntKind.wrap .i64 (s1 + 1)))] kr kr ?_
        refine WO_end rfl ?_
        obtain rfl := Option.some.inj hr
        have hL := hSu1 _ rfl
        have st := st.tail
        exact X_env _ kr (X_round k1 (Nat.lt_succ_self _) ⟨IntKind.wrap .i64 (s1 + 1), m8, hL, rfl, hm, st, hb1, r1⟩)
       intro K2_u2
       refine W_env _ kr (W_loop (fun k2 L' w' => ∃ (s2 : Int) (m9 : Mem), loopM (index_Check_L2 N p0 x1) k2 s2 = some out2 ∧ L' = [(1, .pointer (some ⟨b1, 0, none⟩)), (4, .pointer (some ⟨b3, 0, none⟩)), (16, .slice a1 (List.length p0.1) c1), (17, .int .i64 (List.length p0.1 : Int)), (18, .int .i64 s1), (51, .slice a2 (List.length x1.2) c2), (52, .int .i64 (List.length x1.2 : Int)), (53, .int .i64 s2)] ∧ m.le m9 ∧ St m9 (.blk b3 (.cells #[.int .i64 x1.1.1, .string x1.1.2.1, .string x1.1.2.2, .slice a2 (List.length x1.2) c2] 111 (0, 0)) :: own) w' ∧ MRow m9 b1 0 [.slice a1 (List.length p0.1) c1, .int .i64 p0.2] ∧ RepS (cPair (cPair (cInt .i64) (cPair cStr cStr)) (cSl (cInt .i64))) m9 a1 c1 p0.1 ∧ RepS (cInt .i64) m9 a2 c2 x1.2) N ⟨0, m5, hr, rfl, hm, st, hb1, r1, r2⟩ ?_)
       clear st hr
       rintro k2 _ w12 ⟨s2, m9, hL, rfl, hm, st, hb1, r1, r2⟩
       rcases k2 with _ | k2
       ·exact loopM_zero hL
       ·obtain ⟨qu2, hr, hSu2, hBu2⟩ := loopM_succ hL
        clear hL
        unfold index_Check_L2 at hr
        refine W_sr (WO_seg 1 [(54, .bool (decide (s2 < (List.length x1.2 : Int))))] kr kr ?_)
        refine WO_et rfl (W_seq ?_)
        refine W_cond (decide (s2 < (List.length x1.2 : Int))) kr ?_ ?_
        ·intro hc
         rw [if_pos hc] at hr
         refine W_skip ?_
         refine X_then ?_
         refine W_seq ?_
         refine W_block ?_
         refine W_sr (WO_seg 1 [(55, .int .i64 s2)] kr kr ?_)
         replace ⟨x3, hx5, hr⟩ := bindS hr
         refine WO_one rfl (One_index (d := 56) (t := 22) (e := 3) (x := (.tmp 51)) (y := (.tmp 53)) (cInt .i64) kr rfl (ev (.slice a2 (List.length x1.2) c2)) (ev (.int .i64 s2)) kr r2 hx5 ?_)
         rintro b5 f3 cs3 rfl hq3
         refine WO_one rfl (One_load_row (d := 57) (t := 3) (x := (.tmp 56)) (.int .i64 x3) kr rfl (ev (.pointer (some ⟨b5, f3, none⟩))) st hq3 kr ?_)
         refine WO_seg 2 [(5, .int .i64 s2), (6, .int .i64 x3)] kr kr ?_
         refine WO_et rfl (W_sr ?_)
         replace ⟨o5, hr, hrK⟩ := bindS hr
         refine WO_cut (j := 22) (fun L' w' => ∃ (m10 : Mem), L' = [(1, .pointer (some ⟨b1, 0, none⟩)), (4, .pointer (some ⟨b3, 0, none⟩)), (16, .slice a1 (List.length p0.1) c1), (17, .int .i64 (List.length p0.1 : Int)), (18, .int .i64 s1), (51, .slice a2 (List.length x1.2) c2), (52, .int .i64 (List.length x1.2 : Int)), (53, .int .i64 s2), (79, .bool o5)] ∧ m.le m10 ∧ St m10 (.blk b3 (.cells #[.int .i64 x1.1.1, .string x1.1.2.1, .string x1.1.2.2, .slice a2 (List.length x1.2) c2] 111 (0, 0)) :: own) w' ∧ MRow m10 b1 0 [.slice a1 (List.length p0.1) c1, .int .i64 p0.2] ∧ RepS (cPair (cPair (cInt .i64) (cPair cStr cStr)) (cSl (cInt .i64))) m10 a1 c1 p0.1 ∧ RepS (cInt .i64) m10 a2 c2 x1.2) ?_ ?_
         ·clear hr st
          have hr := hrK
          clear hrK
          rintro _ w13 ⟨m10, rfl, hm, st, hb1, r1, r2⟩
          refine WO_et rfl (W_cond o5 kr ?_ ?_)
          ·intro hc
           rw [if_pos hc] at hr
           refine W_sr (WO_seg 1 [(2, .bool false)] kr kr ?_)
           refine WO_et rfl (W_ret ?_)
           refine X_block_ret ?_
           refine X_then_ret ?_
           obtain rfl := Option.some.inj hr
           have ho := hBu2 _ rfl
           subst ho
           have hr := hrKu2
           dsimp only at hr
           refine X_then_ret ?_
           refine X_block_ret ?_
           refine X_block_ret ?_
           refine X_then_ret ?_
           obtain rfl := Option.some.inj hr
           have ho := hBu1 _ rfl
           subst ho
           have hr := hrKu1
           dsimp only at hr
           refine X_then_ret ?_
           refine X_block_ret ?_
           refine X_then_ret ?_
           obtain rfl := Option.some.inj hr
           refine X_ret [.tmp 2] [.bool false] rfl (ResAll.cons (ResAt.tmp kr) ResAll.nil) ?_
           have st := st.tail
           exact ⟨m10, rfl, hm, st⟩
          ·intro hc
           rw [if_neg (not_true hc)] at hr
           refine W_skip ?_
           refine X_block ?_
           refine X_then ?_
           refine W_region ?_
           refine WO_seg 2 [(53, .int .i64 (IntKind.wrap .i64 (s2 + 1)))] kr kr ?_
           refine WO_end rfl ?_
           obtain rfl := Option.some.inj hr
           have hL := hSu2 _ rfl
           exact X_env _ kr (X_round k2 (Nat.lt_succ_self _) ⟨IntKind.wrap .i64 (s2 + 1), m10, hL, rfl, hm, st, hb1, r1, r2⟩)
         ·intro K
          clear hrK
          refine WO_seg 3 [(60, .bool (decide (x3 < 0)))] kr kr ?_
          rcases bcases (decide (x3 < 0)) with hc | hc
          ·rw [if_pos hc] at hr
           refine WO_fact (t := 60) (b := true) (decide (x3 < 0)) kr hc ?_
           refine WO_seg 19 [(79, .bool true)] kr kr ?_
           obtain rfl := Option.some.inj hr
           exact WO_env _ kr (K _ _ ⟨m9, rfl, hm, st, hb1, r1, r2⟩)
          ·rw [if_neg (not_true hc)] at hr
           refine WO_fact (t := 60) (b := false) (decide (x3 < 0)) kr hc ?_
           refine WO_seg 2 [(61, .int .i64 x3), (62, .pointer (some ⟨b1, 1, none⟩))] kr kr ?_
           refine WO_one rfl (One_load_row (d := 63) (t := 3) (x := (.tmp 62)) (.int .i64 p0.2) kr rfl (ev (.pointer (some ⟨b1, 1, none⟩))) st (hb1.drop 1) kr ?_)
           refine WO_seg 3 [(66, .bool (decide (x3 ≥ p0.2)))] kr kr ?_
           rcases bcases (decide (x3 ≥ p0.2)) with hc | hc
           ·rw [if_pos hc] at hr
            refine WO_fact (t := 66) (b := true) (decide (x3 ≥ p0.2)) kr hc ?_
            refine WO_seg 13 [(79, .bool true)] kr kr ?_
            obtain rfl := Option.some.inj hr
            exact WO_env _ kr (K _ _ ⟨m9, rfl, hm, st, hb1, r1, r2⟩)
           ·rw [if_neg (not_true hc)] at hr
            refine WO_fact (t := 66) (b := false) (decide (x3 ≥ p0.2)) kr hc ?_
            refine WO_seg 3 [(69, .bool (decide (s2 > 0)))] kr kr ?_
            rcases bcases (decide (s2 > 0)) with hc | hc
            ·rw [if_pos hc] at hr
             refine WO_fact (t := 69) (b := true) (decide (s2 > 0)) kr hc ?_
             refine WO_seg 2 [(70, .int .i64 x3), (71, .pointer (some ⟨b3, 3, none⟩))] kr kr ?_
             refine WO_one rfl (One_load_own (d := 72) (t := 22) (x := (.tmp 71)) (.slice a2 (List.length x1.2) c2) kr rfl (ev (.pointer (some ⟨b3, 3, none⟩))) st.head kr ?_)
             refine WO_seg 2 [(74, .int .i64 (IntKind.wrap .i64 (s2 - 1)))] kr kr ?_
             replace ⟨x4, hx6, hr⟩ := bindS hr
             refine WO_one rfl (One_index (d := 75) (t := 22) (e := 3) (x := (.tmp 72)) (y := (.tmp 74)) (cInt .i64) kr rfl (ev (.slice a2 (List.length x1.2) c2)) (ev (.int .i64 (IntKind.wrap .i64 (s2 - 1)))) kr r2 hx6 ?_)
             rintro b6 f4 cs4 rfl hq4
             refine WO_one rfl (One_load_row (d := 76) (t := 3) (x := (.tmp 75)) (.int .i64 x4) kr rfl (ev (.pointer (some ⟨b6, f4, none⟩))) st hq4 kr ?_)
             refine WO_seg 3 [(79, .bool (decide (x3 ≤ x4)))] kr kr ?_
             obtain rfl := Option.some.inj hr
             exact WO_env _ kr (K _ _ ⟨m9, rfl, hm, st, hb1, r1, r2⟩)
            ·rw [if_neg (not_true hc)] at hr
             refine WO_fact (t := 69) (b := false) (decide (s2 > 0)) kr hc ?_
             refine WO_seg 10 [(79, .bool false)] kr kr ?_
             obtain rfl := Option.some.inj hr
             exact WO_env _ kr (K _ _ ⟨m9, rfl, hm, st, hb1, r1, r2⟩)
        ·intro hc
         rw [if_neg (not_true hc)] at hr
         refine W_exit ?_
         refine X_then_exit ?_
         obtain rfl := Option.some.inj hr
         have ho := hBu2 _ rfl
         refine X_then_exit ?_
         exact X_env _ kr (K2_u2 _ _ ⟨(), m9, ho, rfl, hm, st, hb1, r1, r2⟩)
     ·intro K
      clear hrK
      refine W_draw [(27, fun w' => Inv m4 w' ∧ Piece.holds m4 w' (.blk b3 (.cells #[.int .i64 x1.1.1, .string x1.1.2.1, .string x1.1.2.2, .slice a2 (List.length x1.2) c2] 111 (0, 0))) ∧ True)] kr st ?_
      clear st
      intro w8 _ st
      have hmS1 := m4.le_refl
      refine ⟨⟨.inr ⟨Inv.anti st.inv hmS1, Piece.holds_anti st.head hmS1, trivial⟩, trivial⟩, ?_⟩
      have hb1S := hb1
      have r1S := r1
      refine WA_pure 0 23 (.pointer (some ⟨b3, 0, none⟩)) kr rfl kr (.head _) (QP_then (QP_then (QP_block (QP_then (QP_then (QP_block (QP_then QP_body))))))) ?_
      refine WA_load_own (t := 29) (x := (.tmp 23)) 1 24 (.agg #[.int .i64 x1.1.1, .string x1.1.2.1, .string x1.1.2.2]) kr rfl kr (.head _) (QP_then (QP_then (QP_block (QP_then (QP_then (QP_block (QP_then QP_body))))))) (fun _ h => h.2.1) (ev (.pointer (some ⟨b3, 0, none⟩))) kr ?_
      replace ⟨y1, hx2, hr⟩ := bindS hr
      refine WA_one 2 kr  (One_fn 25 40 #[.agg #[.int .i64 x1.1.1, .string x1.1.2.1, .string x1.1.2.2]] kr rfl ?_)
      refine (fact_Check_ok st hx2).mono ?_
      clear st
      rintro _ w9 ⟨m6, rfl, hle2, st⟩
      refine ⟨_, rfl, ?_⟩
      have hm := Mem.le_trans hm hle2
      have hb1 := hb1.mono hle2
      have r1 := r1.mono hle2
      have r2 := r2.mono hle2
      have hmS1 := Mem.le_trans hmS1 hle2
      refine ⟨⟨.inr ⟨Inv.anti st.inv hmS1, Piece.holds_anti st.head hmS1, trivial⟩, trivial⟩, ?_⟩
      refine WA_pure 3 26 (.bool (!y1)) kr rfl kr (.head _) (QP_then (QP_then (QP_block (QP_then (QP_then (QP_block (QP_then QP_body))))))) ?_
      refine WA_pure 4 27 (.bool (!y1)) kr rfl kr (.head _) (QP_then (QP_then (QP_block (QP_then (QP_then (QP_block (QP_then QP_body))))))) ?_
      rcases bcases (!y1) with hc | hc
      ·rw [if_pos hc] at hr
       refine WA_fact (t := 27) (b := true) (!y1) kr hc ?_
       refine WA_not 5 28 kr rfl kr (.head _) (QP_then (QP_then (QP_block (QP_then (QP_then (QP_block (QP_then QP_body))))))) ?_
       refine WA_not 6 29 kr rfl kr (.head _) (QP_then (QP_then (QP_block (QP_then (QP_then (QP_block (QP_then QP_body))))))) ?_
       refine WA_not 7 30 kr rfl kr (.head _) (QP_then (QP_then (QP_block (QP_then (QP_then (QP_block (QP_then QP_body))))))) ?_
       refine WA_not 8 31 kr rfl kr (.head _) (QP_then (QP_then (QP_block (QP_then (QP_then (QP_block (QP_then QP_body))))))) ?_
       refine WA_not 9 32 kr rfl kr (.head _) (QP_then (QP_then (QP_block (QP_then (QP_then (QP_block (QP_then QP_body))))))) ?_
       refine WA_not 10 33 kr rfl kr (.head _) (QP_then (QP_then (QP_block (QP_then (QP_then (QP_block (QP_then QP_body))))))) ?_
       refine WA_not 11 34 kr rfl kr (.head _) (QP_then (QP_then (QP_block (QP_then (QP_then (QP_block (QP_then QP_body))))))) ?_
       refine WA_not 12 35 kr rfl kr (.head _) (QP_then (QP_then (QP_block (QP_then (QP_then (QP_block (QP_then QP_body))))))) ?_
       refine WA_not 13 36 kr rfl kr (.head _) (QP_then (QP_then (QP_block (QP_then (QP_then (QP_block (QP_then QP_body))))))) ?_
       refine WA_not 14 37 kr rfl kr (.head _) (QP_then (QP_then (QP_block (QP_then (QP_then (QP_block (QP_then QP_body))))))) ?_
       refine WA_not 15 38 kr rfl kr (.head _) (QP_then (QP_then (QP_block (QP_then (QP_then (QP_block (QP_then QP_body))))))) ?_
       refine WA_not 16 39 kr rfl kr (.head _) (QP_then (QP_then (QP_block (QP_then (QP_then (QP_block (QP_then QP_body))))))) ?_
       refine WA_not 17 40 kr rfl kr (.head _) (QP_then (QP_then (QP_block (QP_then (QP_then (QP_block (QP_then QP_body))))))) ?_
       refine WA_not 18 41 kr rfl kr (.head _) (QP_then (QP_then (QP_block (QP_then (QP_then (QP_block (QP_then QP_body))))))) ?_
       refine WA_not 19 42 kr rfl kr (.head _) (QP_then (QP_then (QP_block (QP_then (QP_then (QP_block (QP_then QP_body))))))) ?_
       refine WA_pure 20 43 (.bool true) kr rfl kr (.head _) (QP_then (QP_then (QP_block (QP_then (QP_then (QP_block (QP_then QP_body))))))) ?_
       refine WA_pure 21 44 (.bool true) kr rfl kr (.head _) (QP_then (QP_then (QP_block (QP_then (QP_then (QP_block (QP_then QP_body))))))) ?_
       refine WA_not 22 45 kr rfl kr (.head _) (QP_then (QP_then (QP_block (QP_then (QP_then (QP_block (QP_then QP_body))))))) ?_
       refine WA_not 23 46 kr rfl kr (.head _) (QP_then (QP_then (QP_block (QP_then (QP_then (QP_block (QP_then QP_body))))))) ?_
       refine WA_not 24 47 kr rfl kr (.head _) (QP_then (QP_then (QP_block (QP_then (QP_then (QP_block (QP_then QP_body))))))) ?_
       refine WA_not 25 48 kr rfl kr (.head _) (QP_then (QP_then (QP_block (QP_then (QP_then (QP_block (QP_then QP_body))))))) ?_
       refine WA_pure 26 49 (.bool true) kr rfl kr (.head _) (QP_then (QP_then (QP_block (QP_then (QP_then (QP_block (QP_then QP_body))))))) ?_
       obtain rfl := Option.some.inj hr
       exact WA_done kr (X_env _ kr (K _ _ ⟨m6, rfl, hm, st, hb1, r1, r2⟩))
      ·rw [if_neg (not_true hc)] at hr
       refine WA_fact (t := 27) (b := false) (!y1) kr hc ?_
       refine WA_pure 5 28 (.int .i64 s1) kr rfl kr (.head _) (QP_then (QP_then (QP_block (QP_then (QP_then (QP_block (QP_then QP_body))))))) ?_
       refine WA_pure 6 29 (.bool (decide (s1 > 0))) kr rfl kr (.head _) (QP_then (QP_then (QP_block (QP_then (QP_then (QP_block (QP_then QP_body))))))) ?_
       refine WA_pure 7 30 (.bool (decide (s1 > 0))) kr rfl kr (.head _) (QP_then (QP_then (QP_block (QP_then (QP_then (QP_block (QP_then QP_body))))))) ?_
       rcases bcases (decide (s1 > 0)) with hc | hc
       ·rw [if_pos hc] at hr
        refine WA_fact (t := 30) (b := true) (decide (s1 > 0)) kr hc ?_
        refine WA_pure 8 31 (.pointer (some ⟨b1, 0, none⟩)) kr rfl kr (.head _) (QP_then (QP_then (QP_block (QP_then (QP_then (QP_block (QP_then QP_body))))))) ?_
        refine WA_load_row (t := 62) (x := (.tmp 31)) 9 32 (.slice a1 (List.length p0.1) c1) kr rfl kr (.head _) (QP_then (QP_then (QP_block (QP_then (QP_then (QP_block (QP_then QP_body))))))) (fun _ h => h.1) (ev (.pointer (some ⟨b1, 0, none⟩))) hb1S kr ?_
        refine WA_pure 10 33 (.int .i64 s1) kr rfl kr (.head _) (QP_then (QP_then (QP_block (QP_then (QP_then (QP_block (QP_then QP_body))))))) ?_
        refine WA_pure 11 34 (.int .i64 (IntKind.wrap .i64 (s1 - 1))) kr rfl kr (.head _) (QP_then (QP_then (QP_block (QP_then (QP_then (QP_block (QP_then QP_body))))))) ?_
        replace ⟨x2, hx3, hr⟩ := bindS hr
        refine WA_index (t := 62) (e := 111) (x := (.tmp 32)) (y := (.tmp 34)) 12 35 (cPair (cPair (cInt .i64) (cPair cStr cStr)) (cSl (cInt .i64))) kr rfl kr (.head _) (QP_then (QP_then (QP_block (QP_then (QP_then (QP_block (QP_then QP_body))))))) (ev (.slice a1 (List.length p0.1) c1)) (ev (.int .i64 (IntKind.wrap .i64 (s1 - 1)))) kr r1S hx3 ?_
        rintro b4 f2 cs2 ⟨_, _, rfl, ⟨_, _, rfl, rfl, ⟨_, _, rfl, rfl, rfl⟩⟩, ⟨a3, c3, rfl, r3⟩⟩ hq2
        have hq2S := hq2
        have hq2 := hq2.mono hmS1
        have r3 := r3.mono hmS1
        refine WA_pure 13 36 (.pointer (some ⟨b4, f2, none⟩)) kr rfl kr (.head _) (QP_then (QP_then (QP_block (QP_then (QP_then (QP_block (QP_then QP_body))))))) ?_
        refine WA_load_row (t := 29) (x := (.tmp 36)) 14 37 (.agg #[.int .i64 x2.1.1, .string x2.1.2.1, .string x2.1.2.2]) kr rfl kr (.head _) (QP_then (QP_then (QP_block (QP_then (QP_then (QP_block (QP_then QP_body))))))) (fun _ h => h.1) (ev (.pointer (some ⟨b4, f2, none⟩))) hq2S kr ?_
        refine WA_pure 15 38 (.pointer (some ⟨b3, 0, none⟩)) kr rfl kr (.head _) (QP_then (QP_then (QP_block (QP_then (QP_then (QP_block (QP_then QP_body))))))) ?_
        refine WA_load_own (t := 29) (x := (.tmp 38)) 16 39 (.agg #[.int .i64 x1.1.1, .string x1.1.2.1, .string x1.1.2.2]) kr rfl kr (.head _) (QP_then (QP_then (QP_block (QP_then (QP_then (QP_block (QP_then QP_body))))))) (fun _ h => h.2.1) (ev (.pointer (some ⟨b3, 0, none⟩))) kr ?_
        replace ⟨y2, hx4, hr⟩ := bindS hr
        refine WA_one 17 kr  (One_fn 40 67 #[.agg #[.int .i64 x2.1.1, .string x2.1.2.1, .string x2.1.2.2], .agg #[.int .i64 x1.1.1, .string x1.1.2.1, .string x1.1.2.2]] kr rfl ?_)
        refine (fact_Compare_ok st hx4).mono ?_
        clear st
        rintro _ w10 ⟨m7, rfl, hle3, st⟩
        refine ⟨_, rfl, ?_⟩
        have hm := Mem.le_trans hm hle3
        have hb1 := hb1.mono hle3
        have r1 := r1.mono hle3
        have hq2 := hq2.mono hle3
        have r3 := r3.mono hle3
        have r2 := r2.mono hle3
        have hmS1 := Mem.le_trans hmS1 hle3
        refine ⟨⟨.inr ⟨Inv.anti st.inv hmS1, Piece.holds_anti st.head hmS1, trivial⟩, trivial⟩, ?_⟩
        refine WA_pure 18 41 (.bool (decide (y2 ≥ 0))) kr rfl kr (.head _) (QP_then (QP_then (QP_block (QP_then (QP_then (QP_block (QP_then QP_body))))))) ?_
        refine WA_pure 19 42 (.bool (decide (y2 ≥ 0))) kr rfl kr (.head _) (QP_then (QP_then (QP_block (QP_then (QP_then (QP_block (QP_then QP_body))))))) ?_
        refine WA_pure 20 43 (.bool (decide (y2 ≥ 0))) kr rfl kr (.head _) (QP_then (QP_then (QP_block (QP_then (QP_then (QP_block (QP_then QP_body))))))) ?_
        refine WA_pure 21 44 (.bool (decide (y2 ≥ 0))) kr rfl kr (.head _) (QP_then (QP_then (QP_block (QP_then (QP_then (QP_block (QP_then QP_body))))))) ?_
        rcases bcases (decide (y2 ≥ 0)) with hc | hc
        ·rw [if_pos hc] at hr
         refine WA_fact (t := 44) (b := true) (decide (y2 ≥ 0)) kr hc ?_
         refine WA_not 22 45 kr rfl kr (.head _) (QP_then (QP_then (QP_block (QP_then (QP_then (QP_block (QP_then QP_body))))))) ?_
         refine WA_not 23 46 kr rfl kr (.head _) (QP_then (QP_then (QP_block (QP_then (QP_then (QP_block (QP_then QP_body))))))) ?_
         refine WA_not 24 47 kr rfl kr (.head _) (QP_then (QP_then (QP_block (QP_then (QP_then (QP_block (QP_then QP_body))))))) ?_
         refine WA_not 25 48 kr rfl kr (.head _) (QP_then (QP_then (QP_block (QP_then (QP_then (QP_block (QP_then QP_body))))))) ?_
         refine WA_pure 26 49 (.bool true) kr rfl kr (.head _) (QP_then (QP_then (QP_block (QP_then (QP_then (QP_block (QP_then QP_body))))))) ?_
         obtain rfl := Option.some.inj hr
         exact WA_done kr (X_env _ kr (K _ _ ⟨m7, rfl, hm, st, hb1, r1, r2⟩))
        ·rw [if_neg (not_true hc)] at hr
         refine WA_fact (t := 44) (b := false) (decide (y2 ≥ 0)) kr hc ?_
         refine WA_pure 22 45 (.pointer (some ⟨b3, 3, none⟩)) kr rfl kr (.head _) (QP_then (QP_then (QP_block (QP_then (QP_then (QP_block (QP_then QP_body))))))) ?_
         refine WA_load_own (t := 22) (x := (.tmp 45)) 23 46 (.slice a2 (List.length x1.2) c2) kr rfl kr (.head _) (QP_then (QP_then (QP_block (QP_then (QP_then (QP_block (QP_then QP_body))))))) (fun _ h => h.2.1) (ev (.pointer (some ⟨b3, 3, none⟩))) kr ?_
         refine WA_pure 24 47 (.int .i64 (List.length x1.2 : Int)) kr rfl kr (.head _) (QP_then (QP_then (QP_block (QP_then (QP_then (QP_block (QP_then QP_body))))))) ?_
         refine WA_pure 25 48 (.bool ((List.length x1.2 : Int) == 0)) kr rfl kr (.head _) (QP_then (QP_then (QP_block (QP_then (QP_then (QP_block (QP_then QP_body))))))) ?_
         refine WA_pure 26 49 (.bool ((List.length x1.2 : Int) == 0)) kr rfl kr (.head _) (QP_then (QP_then (QP_block (QP_then (QP_then (QP_block (QP_then QP_body))))))) ?_
         obtain rfl := Option.some.inj hr
         exact WA_done kr (X_env _ kr (K _ _ ⟨m7, rfl, hm, st, hb1, r1, r2⟩))
       ·rw [if_neg (not_true hc)] at hr
        refine WA_fact (t := 30) (b := false) (decide (s1 > 0)) kr hc ?_
        refine WA_not 8 31 kr rfl kr (.head _) (QP_then (QP_then (QP_block (QP_then (QP_then (QP_block (QP_then QP_body))))))) ?_
        refine WA_not 9 32 kr rfl kr (.head _) (QP_then (QP_then (QP_block (QP_then (QP_then (QP_block (QP_then QP_body))))))) ?_
        refine WA_not 10 33 kr rfl kr (.head _) (QP_then (QP_then (QP_block (QP_then (QP_then (QP_block (QP_then QP_body))))))) ?_
        refine WA_not 11 34 kr rfl kr (.head _) (QP_then (QP_then (QP_block (QP_then (QP_then (QP_block (QP_then QP_body))))))) ?_
        refine WA_not 12 35 kr rfl kr (.head _) (QP_then (QP_then (QP_block (QP_then (QP_then (QP_block (QP_then QP_body))))))) ?_
        refine WA_not 13 36 kr rfl kr (.head _) (QP_then (QP_then (QP_block (QP_then (QP_then (QP_block (QP_then QP_body))))))) ?_
        refine WA_not 14 37 kr rfl kr (.head _) (QP_then (QP_then (QP_block (QP_then (QP_then (QP_block (QP_then QP_body))))))) ?_
        refine WA_not 15 38 kr rfl kr (.head _) (QP_then (QP_then (QP_block (QP_then (QP_then (QP_block (QP_then QP_body))))))) ?_
        refine WA_not 16 39 kr rfl kr (.head _) (QP_then (QP_then (QP_block (QP_then (QP_then (QP_block (QP_then QP_body))))))) ?_
        refine WA_not 17 40 kr rfl kr (.head _) (QP_then (QP_then (QP_block (QP_then (QP_then (QP_block (QP_then QP_body))))))) ?_
        refine WA_not 18 41 kr rfl kr (.head _) (QP_then (QP_then (QP_block (QP_then (QP_then (QP_block (QP_then QP_body))))))) ?_
        refine WA_pure 19 42 (.bool false) kr rfl kr (.head _) (QP_then (QP_then (QP_block (QP_then (QP_then (QP_block (QP_then QP_body))))))) ?_
        refine WA_pure 20 43 (.bool false) kr rfl kr (.head _) (QP_then (QP_then (QP_block (QP_then (QP_then (QP_block (QP_then QP_body))))))) ?_
        refine WA_pure 21 44 (.bool false) kr rfl kr (.head _) (QP_then (QP_then (QP_block (QP_then (QP_then (QP_block (QP_then QP_body))))))) ?_
        refine WA_pure 22 45 (.pointer (some ⟨b3, 3, none⟩)) kr rfl kr (.head _) (QP_then (QP_then (QP_block (QP_then (QP_then (QP_block (QP_then QP_body))))))) ?_
        refine WA_load_own (t := 22) (x := (.tmp 45)) 23 46 (.slice a2 (List.length x1.2) c2) kr rfl kr (.head _) (QP_then (QP_then (QP_block (QP_then (QP_then (QP_block (QP_then QP_body))))))) (fun _ h => h.2.1) (ev (.pointer (some ⟨b3, 3, none⟩))) kr ?_
        refine WA_pure 24 47 (.int .i64 (List.length x1.2 : Int)) kr rfl kr (.head _) (QP_then (QP_then (QP_block (QP_then (QP_then (QP_block (QP_then QP_body))))))) ?_
        refine WA_pure 25 48 (.bool ((List.length x1.2 : Int) == 0)) kr rfl kr (.head _) (QP_then (QP_then (QP_block (QP_then (QP_then (QP_block (QP_then QP_body))))))) ?_
        refine WA_pure 26 49 (.bool ((List.length x1.2 : Int) == 0)) kr rfl kr (.head _) (QP_then (QP_then (QP_block (QP_then (QP_then (QP_block (QP_then QP_body))))))) ?_
        obtain rfl := Option.some.inj hr
        exact WA_done kr (X_env _ kr (K _ _ ⟨m6, rfl, hm, st, hb1, r1, r2⟩))
    ·intro hc
     rw [if_neg (not_true hc)] at hr
     refine W_exit ?_
     refine X_then_exit ?_
     obtain rfl := Option.some.inj hr
     have ho := hBu1 _ rfl
     refine X_then_exit ?_
     exact X_env _ kr (K0_u1 _ _ ⟨(), m4, ho, rfl, hm, st⟩)
 ·intro K
  clear hrK
  refine WO_seg 1 [(7, .pointer (some ⟨b1, 1, none⟩))] kr kr ?_
  refine WO_one rfl (One_load_row (d := 8) (t := 3) (x := (.tmp 7)) (.int .i64 p0.2) kr rfl (ev (.pointer (some ⟨b1, 1, none⟩))) st (hb1.drop 1) kr ?_)
  refine WO_seg 2 [(10, .bool (decide (p0.2 < 0)))] kr kr ?_
  rcases bcases (decide (p0.2 < 0)) with hc | hc
  ·rw [if_pos hc] at hr
   refine WO_fact (t := 10) (b := true) (decide (p0.2 < 0)) kr hc ?_
   refine WO_seg 4 [(14, .bool true)] kr kr ?_
   obtain rfl := Option.some.inj hr
   exact WO_env _ kr (K _ _ ⟨m1, rfl, hm, st, hb1, r1⟩)
  ·rw [if_neg (not_true hc)] at hr
   refine WO_fact (t := 10) (b := false) (decide (p0.2 < 0)) kr hc ?_
   refine WO_seg 1 [(11, .pointer (some ⟨b1, 1, none⟩))] kr kr ?_
   refine WO_one rfl (One_load_row (d := 12) (t := 3) (x := (.tmp 11)) (.int .i64 p0.2) kr rfl (ev (.pointer (some ⟨b1, 1, none⟩))) st (hb1.drop 1) kr ?_)
   refine WO_seg 2 [(14, .bool (decide (p0.2 > 512)))] kr kr ?_
   obtain rfl := Option.some.inj hr
   exact WO_env _ kr (K _ _ ⟨m1, rfl, hm, st, hb1, r1⟩)
end Go.Proofs.YtgggihpbhmbjaaaDoor
