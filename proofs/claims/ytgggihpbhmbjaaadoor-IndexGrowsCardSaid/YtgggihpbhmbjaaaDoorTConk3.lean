/- MADE BY gen.py: plain functions and the proofs that the Go functions compute them. No condition but those of each theorem. -/
import Derived.Test.YtgggihpbhmbjaaaDoorProg
import Derived.Test.YtgggihpbhmbjaaaDoorViewk3
import Derived.Test.YtgggihpbhmbjaaaDoorMapDk3
import Derived.Test.YtgggihpbhmbjaaaDoorLink3
import Derived.Test.YtgggihpbhmbjaaaDoorTConBk3
namespace Go.Proofs.YtgggihpbhmbjaaaDoor
open Go Go.Dc
def index_Add (N : Nat) (p0 : (List ((Int × ByteArray × ByteArray) × List Int)) × Int) (p1 : (ByteArray × ByteArray) × Int × Int × Int × (Int × Int × Int) × Bool × (List ((Int × ByteArray × ByteArray) × Int))) : Option (((List ((Int × ByteArray × ByteArray) × List Int)) × Int) × Int) :=
 (index_Check N (p0.1, p0.2)).bind fun y1 => if (!y1) = true then (some ((([] : List ((Int × ByteArray × ByteArray) × List Int)), 0), 1)) else (if (p0.2 == 512) = true then (some ((([] : List ((Int × ByteArray × ByteArray) × List Int)), 0), 2)) else ((index_well N ((p1.1.1, p1.1.2), p1.2.1, p1.2.2.1, p1.2.2.2.1, (p1.2.2.2.2.1.1, p1.2.2.2.2.1.2.1, p1.2.2.2.2.1.2.2), p1.2.2.2.2.2.1, p1.2.2.2.2.2.2)).bind fun y2 => if (!y2) = true then (some ((([] : List ((Int × ByteArray × ByteArray) × List Int)), 0), 1)) else ((index_grown N (p0.1, p0.2) ((p1.1.1, p1.1.2), p1.2.1, p1.2.2.1, p1.2.2.2.1, (p1.2.2.2.2.1.1, p1.2.2.2.2.1.2.1, p1.2.2.2.2.1.2.2), p1.2.2.2.2.2.1, p1.2.2.2.2.2.2)).bind fun y3 => some ((y3.1, y3.2), 0))))
set_option maxHeartbeats 4000000 in
set_option maxRecDepth 100000 in
theorem index_Add_ok {N : Nat} {m : Mem} {own : List Piece} {w : World} {p0 : (List ((Int × ByteArray × ByteArray) × List Int)) × Int} {p1 : (ByteArray × ByteArray) × Int × Int × Int × (Int × Int × Int) × Bool × (List ((Int × ByteArray × ByteArray) × Int))} {a1 : Option Addr} {c1 : Nat} {a2 : Option Addr} {c2 : Nat} {r : ((List ((Int × ByteArray × ByteArray) × List Int)) × Int) × Int} (st : St m (own) w) (r1 : RepS (cPair (cPair (cInt .i64) (cPair cStr cStr)) (cSl (cInt .i64))) m a1 c1 p0.1) (r2 : RepS (cPair (cPair (cInt .i64) (cPair cStr cStr)) (cInt .i64)) m a2 c2 p1.2.2.2.2.2.2) (hr : index_Add N p0 p1 = some r) : Calls Tryd.prog 28 #[.agg #[.slice a1 (List.length p0.1) c1, .int .i64 p0.2], .agg #[.string p1.1.1, .string p1.1.2, .int .i64 p1.2.1, .int .i64 p1.2.2.1, .int .i64 p1.2.2.2.1, .int .i64 p1.2.2.2.2.1.1, .int .i64 p1.2.2.2.2.1.2.1, .int .i64 p1.2.2.2.2.1.2.2, .bool p1.2.2.2.2.2.1, .slice a2 (List.length p1.2.2.2.2.2.2) c2]] w fun e w' => ∃ (ra1 : Option Addr) (rc1 : Nat) (m' : Mem), e = .returned (.tuple #[.agg #[.slice ra1 (List.length r.1.1) rc1, .int .i64 r.1.2], .int .i64 r.2]) ∧ m.le m' ∧ St m' (.room ra1 (List.length r.1.1) rc1 111 4 :: own) w' ∧ RepS (cPair (cPair (cInt .i64) (cPair cStr cStr)) (cSl (cInt .i64))) m' ra1 rc1 r.1.1 := by
 unfold index_Add at hr
 have hm := m.le_refl
 refine W_calls Tryd.func28 rfl Tryd.ntmps28 [(0, .agg #[.slice a1 (List.length p0.1) c1, .int .i64 p0.2]), (1, .agg #[.string p1.1.1, .string p1.1.2, .int .i64 p1.2.1, .int .i64 p1.2.2.1, .int .i64 p1.2.2.2.1, .int .i64 p1.2.2.2.2.1.1, .int .i64 p1.2.2.2.2.1.2.1, .int .i64 p1.2.2.2.2.1.2.2, .bool p1.2.2.2.2.2.1, .slice a2 (List.length p1.2.2.2.2.2.2) c2])] kr rfl ?_
 refine W_sr (WO_one rfl (One_box (d := 2) (e := 64) (x := (.tmp 0)) (.agg #[.slice a1 (List.length p0.1) c1, .int .i64 p0.2]) kr rfl kr st ?_))
 clear st
 intro b1 m1 w1 hle1 st hb1
 have hm := Mem.le_trans hm hle1
 have r1 := r1.mono hle1
 have r2 := r2.mono hle1
 refine WO_one rfl (One_box (d := 3) (e := 73) (x := (.tmp 1)) (.agg #[.string p1.1.1, .string p1.1.2, .int .i64 p1.2.1, .int .i64 p1.2.2.1, .int .i64 p1.2.2.2.1, .int .i64 p1.2.2.2.2.1.1, .int .i64 p1.2.2.2.2.1.2.1, .int .i64 p1.2.2.2.2.1.2.2, .bool p1.2.2.2.2.2.1, .slice a2 (List.length p1.2.2.2.2.2.2) c2]) kr rfl kr st ?_)
 clear st
 intro b2 m2 w2 hle2 st hb2
 have hm := Mem.le_trans hm hle2
 have r1 := r1.mono hle2
 have r2 := r2.mono hle2
 have hb1 := hb1.mono hle2
 refine WO_one rfl (One_alloc (d := 4) (e := 64) (.agg #[.slice none 0 0, .int .i64 0]) kr rfl kr st ?_)
 clear st
 intro b3 w3 st
 refine WO_seg 1 [] kr kr ?_
 refine WO_et rfl (W_seq ?_)
 refine W_block ?_
 refine W_sr (WO_one rfl (One_load_row (d := 7) (t := 64) (x := (.tmp 2)) (.agg #[.slice a1 (List.length p0.1) c1, .int .i64 p0.2]) kr rfl (ev (.pointer (some ⟨b1, 0, none⟩))) st hb1 kr ?_))
 replace ⟨y1, hx1, hr⟩ := bindS hr
 refine WO_one rfl (One_fn 8 60 #[.agg #[.slice a1 (List.length p0.1) c1, .int .i64 p0.2]] kr rfl ?_)
 refine (index_Check_ok st r1 hx1).mono ?_
 clear st
 rintro _ w4 ⟨m3, rfl, hle3, st⟩
 refine ⟨_, rfl, ?_⟩
 have hm := Mem.le_trans hm hle3
 have hb1 := hb1.mono hle3
 have r1 := r1.mono hle3
 have hb2 := hb2.mono hle3
 have r2 := r2.mono hle3
 refine WO_seg 2 [(6, .bool (!y1))] kr kr ?_
 refine WO_et rfl (W_cond (!y1) kr ?_ ?_)
 ·intro hc
  rw [if_pos hc] at hr
  refine W_sr (WO_seg 1 [(10, .agg #[.slice none (List.length ([] : List ((Int × ByteArray × ByteArray) × List Int))) 0, .int .i64 0])] kr kr ?_)
  refine WO_one rfl (One_store (t := 64) (x := (.tmp 4)) (y := (.tmp 10)) (v := .agg #[.slice none (List.length ([] : List ((Int × ByteArray × ByteArray) × List Int))) 0, .int .i64 0]) (c' := #[.slice none (List.length ([] : List ((Int × ByteArray × ByteArray) × List Int))) 0, .int .i64 0]) kr (ev (.pointer (some ⟨b3, 0, none⟩))) (ev (.agg #[.slice none (List.length ([] : List ((Int × ByteArray × ByteArray) × List Int))) 0, .int .i64 0])) st kr kr ?_)
  clear st
  intro w5 st
  refine WO_seg 1 [(5, .int .i64 1)] kr kr ?_
  refine WO_et rfl (W_ret ?_)
  refine X_block_ret ?_
  refine X_then_ret ?_
  obtain rfl := Option.some.inj hr
  refine X_ret [.cell 4 64, .tmp 5] [.agg #[.slice none (List.length ([] : List ((Int × ByteArray × ByteArray) × List Int))) 0, .int .i64 0], .int .i64 1] rfl (ResAll.cons (ResAt.blk (v := .agg #[.slice none (List.length ([] : List ((Int × ByteArray × ByteArray) × List Int))) 0, .int .i64 0]) (o := 0) kr st.head kr) (ResAll.cons (ResAt.tmp kr) ResAll.nil)) ?_
  have st := st.nilroom 111 4
  have st := st.front1
  have st := st.tail
  exact ⟨none, 0, m3, rfl, hm, st, (RepS.nil _ _)⟩
 ·intro hc
  rw [if_neg (not_true hc)] at hr
  refine W_sr (WO_seg 1 [(12, .pointer (some ⟨b1, 1, none⟩))] kr kr ?_)
  refine WO_one rfl (One_load_row (d := 13) (t := 3) (x := (.tmp 12)) (.int .i64 p0.2) kr rfl (ev (.pointer (some ⟨b1, 1, none⟩))) st (hb1.drop 1) kr ?_)
  refine WO_seg 2 [(11, .bool (p0.2 == 512))] kr kr ?_
  refine WO_et rfl (W_cond (p0.2 == 512) kr ?_ ?_)
  ·intro hc
   rw [if_pos hc] at hr
   refine W_sr (WO_seg 1 [(15, .agg #[.slice none (List.length ([] : List ((Int × ByteArray × ByteArray) × List Int))) 0, .int .i64 0])] kr kr ?_)
   refine WO_one rfl (One_store (t := 64) (x := (.tmp 4)) (y := (.tmp 15)) (v := .agg #[.slice none (List.length ([] : List ((Int × ByteArray × ByteArray) × List Int))) 0, .int .i64 0]) (c' := #[.slice none (List.length ([] : List ((Int × ByteArray × ByteArray) × List Int))) 0, .int .i64 0]) kr (ev (.pointer (some ⟨b3, 0, none⟩))) (ev (.agg #[.slice none (List.length ([] : List ((Int × ByteArray × ByteArray) × List Int))) 0, .int .i64 0])) st kr kr ?_)
   clear st
   intro w6 st
   refine WO_seg 1 [(5, .int .i64 2)] kr kr ?_
   refine WO_et rfl (W_ret ?_)
   refine X_block_ret ?_
   refine X_then_ret ?_
   obtain rfl := Option.some.inj hr
   refine X_ret [.cell 4 64, .tmp 5] [.agg #[.slice none (List.length ([] : List ((Int × ByteArray × ByteArray) × List Int))) 0, .int .i64 0], .int .i64 2] rfl (ResAll.cons (ResAt.blk (v := .agg #[.slice none (List.length ([] : List ((Int × ByteArray × ByteArray) × List Int))) 0, .int .i64 0]) (o := 0) kr st.head kr) (ResAll.cons (ResAt.tmp kr) ResAll.nil)) ?_
   have st := st.nilroom 111 4
   have st := st.front1
   have st := st.tail
   exact ⟨none, 0, m3, rfl, hm, st, (RepS.nil _ _)⟩
  ·intro hc
   rw [if_neg (not_true hc)] at hr
   refine W_sr (WO_one rfl (One_load_row (d := 17) (t := 73) (x := (.tmp 3)) (.agg #[.string p1.1.1, .string p1.1.2, .int .i64 p1.2.1, .int .i64 p1.2.2.1, .int .i64 p1.2.2.2.1, .int .i64 p1.2.2.2.2.1.1, .int .i64 p1.2.2.2.2.1.2.1, .int .i64 p1.2.2.2.2.1.2.2, .bool p1.2.2.2.2.2.1, .slice a2 (List.length p1.2.2.2.2.2.2) c2]) kr rfl (ev (.pointer (some ⟨b2, 0, none⟩))) st hb2 kr ?_))
   replace ⟨y2, hx2, hr⟩ := bindS hr
   refine WO_one rfl (One_fn 18 58 #[.agg #[.string p1.1.1, .string p1.1.2, .int .i64 p1.2.1, .int .i64 p1.2.2.1, .int .i64 p1.2.2.2.1, .int .i64 p1.2.2.2.2.1.1, .int .i64 p1.2.2.2.2.1.2.1, .int .i64 p1.2.2.2.2.1.2.2, .bool p1.2.2.2.2.2.1, .slice a2 (List.length p1.2.2.2.2.2.2) c2]] kr rfl ?_)
   refine (index_well_ok st r2 hx2).mono ?_
   clear st
   rintro _ w7 ⟨m4, rfl, hle4, st⟩
   refine ⟨_, rfl, ?_⟩
   have hm := Mem.le_trans hm hle4
   have hb1 := hb1.mono hle4
   have r1 := r1.mono hle4
   have hb2 := hb2.mono hle4
   have r2 := r2.mono hle4
   refine WO_seg 2 [(16, .bool (!y2))] kr kr ?_
   refine WO_et rfl (W_cond (!y2) kr ?_ ?_)
   ·intro hc
    rw [if_pos hc] at hr
    refine W_sr (WO_seg 1 [(20, .agg #[.slice none (List.length ([] : List ((Int × ByteArray × ByteArray) × List Int))) 0, .int .i64 0])] kr kr ?_)
    refine WO_one rfl (One_store (t := 64) (x := (.tmp 4)) (y := (.tmp 20)) (v := .agg #[.slice none (List.length ([] : List ((Int × ByteArray × ByteArray) × List Int))) 0, .int .i64 0]) (c' := #[.slice none (List.length ([] : List ((Int × ByteArray × ByteArray) × List Int))) 0, .int .i64 0]) kr (ev (.pointer (some ⟨b3, 0, none⟩))) (ev (.agg #[.slice none (List.length ([] : List ((Int × ByteArray × ByteArray) × List Int))) 0, .int .i64 0])) st kr kr ?_)
    clear st
    intro w8 st
    refine WO_seg 1 [(5, .int .i64 1)] kr kr ?_
    refine WO_et rfl (W_ret ?_)
    refine X_block_ret ?_
    refine X_then_ret ?_
    obtain rfl := Option.some.inj hr
    refine X_ret [.cell 4 64, .tmp 5] [.agg #[.slice none (List.length ([] : List ((Int × ByteArray × ByteArray) × List Int))) 0, .int .i64 0], .int .i64 1] rfl (ResAll.cons (ResAt.blk (v := .agg #[.slice none (List.length ([] : List ((Int × ByteArray × ByteArray) × List Int))) 0, .int .i64 0]) (o := 0) kr st.head kr) (ResAll.cons (ResAt.tmp kr) ResAll.nil)) ?_
    have st := st.nilroom 111 4
    have st := st.front1
    have st := st.tail
    exact ⟨none, 0, m4, rfl, hm, st, (RepS.nil _ _)⟩
   ·intro hc
    rw [if_neg (not_true hc)] at hr
    refine W_skip ?_
    refine X_block ?_
    refine X_then ?_
    refine W_sr (WO_one rfl (One_load_row (d := 21) (t := 64) (x := (.tmp 2)) (.agg #[.slice a1 (List.length p0.1) c1, .int .i64 p0.2]) kr rfl (ev (.pointer (some ⟨b1, 0, none⟩))) st hb1 kr ?_))
    refine WO_one rfl (One_load_row (d := 22) (t := 73) (x := (.tmp 3)) (.agg #[.string p1.1.1, .string p1.1.2, .int .i64 p1.2.1, .int .i64 p1.2.2.1, .int .i64 p1.2.2.2.1, .int .i64 p1.2.2.2.2.1.1, .int .i64 p1.2.2.2.2.1.2.1, .int .i64 p1.2.2.2.2.1.2.2, .bool p1.2.2.2.2.2.1, .slice a2 (List.length p1.2.2.2.2.2.2) c2]) kr rfl (ev (.pointer (some ⟨b2, 0, none⟩))) st hb2 kr ?_)
    replace ⟨y3, hx3, hr⟩ := bindS hr
    refine WO_one rfl (One_fn 23 59 #[.agg #[.slice a1 (List.length p0.1) c1, .int .i64 p0.2], .agg #[.string p1.1.1, .string p1.1.2, .int .i64 p1.2.1, .int .i64 p1.2.2.1, .int .i64 p1.2.2.2.1, .int .i64 p1.2.2.2.2.1.1, .int .i64 p1.2.2.2.2.1.2.1, .int .i64 p1.2.2.2.2.1.2.2, .bool p1.2.2.2.2.2.1, .slice a2 (List.length p1.2.2.2.2.2.2) c2]] kr rfl ?_)
    refine (index_grown_ok st r1 r2 hx3).mono ?_
    clear st
    rintro _ w9 ⟨a3, c3, m5, rfl, hle5, st, r3⟩
    refine ⟨_, rfl, ?_⟩
    have hm := Mem.le_trans hm hle5
    have hb1 := hb1.mono hle5
    have r1 := r1.mono hle5
    have hb2 := hb2.mono hle5
    have r2 := r2.mono hle5
    have st := st.front1
    refine WO_one rfl (One_store (t := 64) (x := (.tmp 4)) (y := (.tmp 23)) (v := .agg #[.slice a3 (List.length y3.1) c3, .int .i64 y3.2]) (c' := #[.slice a3 (List.length y3.1) c3, .int .i64 y3.2]) kr (ev (.pointer (some ⟨b3, 0, none⟩))) (ev (.agg #[.slice a3 (List.length y3.1) c3, .int .i64 y3.2])) st kr kr ?_)
    clear st
    intro w10 st
    refine WO_seg 1 [(5, .int .i64 0)] kr kr ?_
    refine WO_et rfl (W_ret ?_)
    obtain rfl := Option.some.inj hr
    refine X_ret [.cell 4 64, .tmp 5] [.agg #[.slice a3 (List.length y3.1) c3, .int .i64 y3.2], .int .i64 0] rfl (ResAll.cons (ResAt.blk (v := .agg #[.slice a3 (List.length y3.1) c3, .int .i64 y3.2]) (o := 0) kr st.head kr) (ResAll.cons (ResAt.tmp kr) ResAll.nil)) ?_
    have st := st.tail
    exact ⟨a3, c3, m5, rfl, hm, st, r3⟩
def index_divide_1 (N : Nat) (p0 : Int × ByteArray × ByteArray) : Option (Bool) :=
 (fact_Check N (p0.1, p0.2.1, p0.2.2)).bind fun y1 => some (!y1)
set_option maxHeartbeats 4000000 in
set_option maxRecDepth 100000 in
theorem index_divide_1_ok {N : Nat} {m : Mem} {own : List Piece} {w : World} {p0 : Int × ByteArray × ByteArray} {r : Bool} (st : St m (own) w) (hr : index_divide_1 N p0 = some r) : Calls Tryd.prog 94 #[.agg #[.int .i64 p0.1, .string p0.2.1, .string p0.2.2]] w fun e w' => ∃ (m' : Mem), e = .returned (.bool r) ∧ m.le m' ∧ St m' (own) w' := by
 unfold index_divide_1 at hr
 have hm := m.le_refl
 refine W_calls Tryd.func94 rfl Tryd.ntmps94 [(0, .agg #[.int .i64 p0.1, .string p0.2.1, .string p0.2.2])] kr rfl ?_
 refine W_sr (WO_one rfl (One_box (d := 1) (e := 29) (x := (.tmp 0)) (.agg #[.int .i64 p0.1, .string p0.2.1, .string p0.2.2]) kr rfl kr st ?_))
 clear st
 intro b1 m1 w1 hle1 st hb1
 have hm := Mem.le_trans hm hle1
 refine WO_seg 1 [] kr kr ?_
 refine WO_et rfl (W_sr ?_)
 refine WO_one rfl (One_load_row (d := 3) (t := 29) (x := (.tmp 1)) (.agg #[.int .i64 p0.1, .string p0.2.1, .string p0.2.2]) kr rfl (ev (.pointer (some ⟨b1, 0, none⟩))) st hb1 kr ?_)
 replace ⟨y1, hx1, hr⟩ := bindS hr
 refine WO_one rfl (One_fn 4 40 #[.agg #[.int .i64 p0.1, .string p0.2.1, .string p0.2.2]] kr rfl ?_)
 refine (fact_Check_ok st hx1).mono ?_
 clear st
 rintro _ w2 ⟨m2, rfl, hle2, st⟩
 refine ⟨_, rfl, ?_⟩
 have hm := Mem.le_trans hm hle2
 have hb1 := hb1.mono hle2
 refine WO_seg 2 [(2, .bool (!y1))] kr kr ?_
 refine WO_et rfl (W_ret ?_)
 obtain rfl := Option.some.inj hr
 refine X_ret [.tmp 2] [.bool (!y1)] rfl (ResAll.cons (ResAt.tmp kr) ResAll.nil) ?_
 exact ⟨m2, rfl, hm, st⟩
def index_Find_L1 (N : Nat) (p0 : (List ((Int × ByteArray × ByteArray) × List Int)) × Int) (p1 : Int × ByteArray × ByteArray) (s1 : Int × Int) : Option ((Int × Int) ⊕ ((Int))) :=
 if (decide (s1.1 < s1.2)) = true then ((idx p0.1 (IntKind.wrap .i64 (Int.fdiv (IntKind.wrap .u64 (IntKind.wrap .i64 (s1.1 + s1.2))) (2 ^ 1)))).bind fun x1 => (fact_Compare N (x1.1.1, x1.1.2.1, x1.1.2.2) (p1.1, p1.2.1, p1.2.2)).bind fun y2 => if (!(decide (y2 ≥ 0))) = true then (some (.inl (IntKind.wrap .i64 ((IntKind.wrap .i64 (Int.fdiv (IntKind.wrap .u64 (IntKind.wrap .i64 (s1.1 + s1.2))) (2 ^ 1))) + 1), s1.2))) else (some (.inl (s1.1, IntKind.wrap .i64 (Int.fdiv (IntKind.wrap .u64 (IntKind.wrap .i64 (s1.1 + s1.2))) (2 ^ 1)))))) else (some (.inr s1.1))
def index_Find (N : Nat) (p0 : (List ((Int × ByteArray × ByteArray) × List Int)) × Int) (p1 : Int × ByteArray × ByteArray) : Option (List Int) :=
 (index_Check N (p0.1, p0.2)).bind fun y1 => if (!y1) = true then (some ([] : List (Int))) else (((loopM (index_Find_L1 N p0 p1) N (0, (List.length p0.1 : Int))).bind fun o2 => some o2 : Option (Int)).bind fun o1 => (if (o1 == (List.length p0.1 : Int)) = true then (some true) else ((idx p0.1 o1).bind fun x2 => some (!((x2.1.1 == p1.1) && ((x2.1.2.1.toList == p1.2.1.toList) && ((x2.1.2.2.toList == p1.2.2.toList) && true))))) : Option (Bool)).bind fun o3 => if o3 = true then (some ([] : List (Int))) else ((idx p0.1 o1).bind fun x3 => (slices_Clone_int_int N x3.2).bind fun y3 => some y3))
set_option maxHeartbeats 4000000 in
set_option maxRecDepth 100000 in
theorem index_Find_ok {N : Nat} {m : Mem} {own : List Piece} {w : World} {p0 : (List ((Int × ByteArray × ByteArray) × List Int)) × Int} {p1 : Int × ByteArray × ByteArray} {a1 : Option Addr} {c1 : Nat} {r : List Int} (st : St m (own) w) (r1 : RepS (cPair (cPair (cInt .i64) (cPair cStr cStr)) (cSl (cInt .i64))) m a1 c1 p0.1) (hr : index_Find N p0 p1 = some r) : Calls Tryd.prog 62 #[.agg #[.slice a1 (List.length p0.1) c1, .int .i64 p0.2], .agg #[.int .i64 p1.1, .string p1.2.1, .string p1.2.2]] w fun e w' => ∃ (ra1 : Option Addr) (rc1 : Nat) (m' : Mem), e = .returned (.slice ra1 (List.length r) rc1) ∧ m.le m' ∧ St m' (.room ra1 (List.length r) rc1 3 1 :: own) w' ∧ RepS (cInt .i64) m' ra1 rc1 r := by
 unfold index_Find at hr
 have hm := m.le_refl
 refine W_calls Tryd.func62 rfl Tryd.ntmps62 [(0, .agg #[.slice a1 (List.length p0.1) c1, .int .i64 p0.2]), (1, .agg #[.int .i64 p1.1, .string p1.2.1, .string p1.2.2])] kr rfl ?_
 refine W_sr (WO_one rfl (One_box_own (d := 2) (e := 64) (x := (.tmp 0)) (.agg #[.slice a1 (List.length p0.1) c1, .int .i64 p0.2]) kr rfl kr st ?_))
 clear st
 intro b1 w1 st
 refine WO_one rfl (One_box_own (d := 3) (e := 29) (x := (.tmp 1)) (.agg #[.int .i64 p1.1, .string p1.2.1, .string p1.2.2]) kr rfl kr st ?_)
 clear st
 intro b2 w2 st
 refine WO_seg 1 [] kr kr ?_
 refine WO_et rfl (W_seq ?_)
 refine W_sr (WO_one rfl (One_load_own (d := 6) (t := 64) (x := (.tmp 2)) (.agg #[.slice a1 (List.length p0.1) c1, .int .i64 p0.2]) kr rfl (ev (.pointer (some ⟨b1, 0, none⟩))) st.tail.head kr ?_))
 replace ⟨y1, hx1, hr⟩ := bindS hr
 refine WO_one rfl (One_fn 7 60 #[.agg #[.slice a1 (List.length p0.1) c1, .int .i64 p0.2]] kr rfl ?_)
 refine (index_Check_ok st r1 hx1).mono ?_
 clear st
 rintro _ w3 ⟨m3, rfl, hle3, st⟩
 refine ⟨_, rfl, ?_⟩
 have hm := Mem.le_trans hm hle3
 have r1 := r1.mono hle3
 refine WO_seg 1 [(8, .bool (!y1))] kr kr ?_
 refine WO_et rfl (W_cond (!y1) kr ?_ ?_)
 ·intro hc
  rw [if_pos hc] at hr
  refine W_sr (WO_seg 1 [(4, .slice none (List.length ([] : List (Int))) 0)] kr kr ?_)
  refine WO_et rfl (W_ret ?_)
  refine X_then_ret ?_
  obtain rfl := Option.some.inj hr
  refine X_ret [.tmp 4] [.slice none (List.length ([] : List (Int))) 0] rfl (ResAll.cons (ResAt.tmp kr) ResAll.nil) ?_
  have st := st.nilroom 3 1
  have st := st.front1
  have st := st.tail
  have st := st.front1
  have st := st.tail
  exact ⟨none, 0, m3, rfl, hm, st, (RepS.nil _ _)⟩
 ·intro hc
  rw [if_neg (not_true hc)] at hr
  refine W_skip ?_
  refine X_then ?_
  refine W_sr (WO_seg 1 [(9, .pointer (some ⟨b1, 0, none⟩))] kr kr ?_)
  refine WO_one rfl (One_load_own (d := 10) (t := 62) (x := (.tmp 9)) (.slice a1 (List.length p0.1) c1) kr rfl (ev (.pointer (some ⟨b1, 0, none⟩))) st.tail.head kr ?_)
  refine WO_seg 2 [(11, .int .i64 (List.length p0.1 : Int)), (12, .func (.func 91) #[] #[.pointer (some ⟨b1, 0, none⟩), .pointer (some ⟨b2, 0, none⟩)])] kr kr ?_
  replace ⟨o1, hr, hrKu1⟩ := bindS hr
  refine WO_one rfl (One_fn 13 90 #[.int .i64 (List.length p0.1 : Int), .func (.func 91) #[] #[.pointer (some ⟨b1, 0, none⟩), .pointer (some ⟨b2, 0, none⟩)]] kr rfl ?_)
  refine Calls_cut (fun v' w' => ∃ (m4 : Mem), v' = (.int .i64 o1) ∧ m.le m4 ∧ St m4 (.blk b2 (.cells #[.int .i64 p1.1, .string p1.2.1, .string p1.2.2] 29 (0, 0)) :: .blk b1 (.cells #[.slice a1 (List.length p0.1) c1, .int .i64 p0.2] 64 (0, 0)) :: own) w' ∧ RepS (cPair (cPair (cInt .i64) (cPair cStr cStr)) (cSl (cInt .i64))) m4 a1 c1 p0.1) ?_ ?_
  ·clear hr st
   have hr := hrKu1
   clear hrKu1
   rintro _ w4 ⟨m4, rfl, hm, st, r1⟩
   refine ⟨_, rfl, ?_⟩
   refine WO_seg 1 [(5, .int .i64 o1)] kr kr ?_
   refine WO_et rfl (W_seq ?_)
   refine W_seq ?_
   replace ⟨o3, hr, hrK⟩ := bindS hr
   refine W_cut .normal (fun L' w' => ∃ (m8 : Mem), L' = [(2, .pointer (some ⟨b1, 0, none⟩)), (5, .int .i64 o1), (28, .bool o3)] ∧ m.le m8 ∧ St m8 (.blk b2 (.cells #[.int .i64 p1.1, .string p1.2.1, .string p1.2.2] 29 (0, 0)) :: .blk b1 (.cells #[.slice a1 (List.length p0.1) c1, .int .i64 p0.2] 64 (0, 0)) :: own) w' ∧ RepS (cPair (cPair (cInt .i64) (cPair cStr cStr)) (cSl (cInt .i64))) m8 a1 c1 p0.1) ?_ ?_
   ·clear hr st
    have hr := hrK
    clear hrK
    rintro _ w9 ⟨m8, rfl, hm, st, r1⟩
    refine X_then ?_
    refine W_cond o3 kr ?_ ?_
    ·intro hc
     rw [if_pos hc] at hr
     refine W_sr (WO_seg 1 [(4, .slice none (List.length ([] : List (Int))) 0)] kr kr ?_)
     refine WO_et rfl (W_ret ?_)
     refine X_then_ret ?_
     obtain rfl := Option.some.inj hr
     refine X_ret [.tmp 4] [.slice none (List.length ([] : List (Int))) 0] rfl (ResAll.cons (ResAt.tmp kr) ResAll.nil) ?_
     have st := st.nilroom 3 1
     have st := st.front1
     have st := st.tail
     have st := st.front1
     have st := st.tail
     exact ⟨none, 0, m8, rfl, hm, st, (RepS.nil _ _)⟩
    ·intro hc
     rw [if_neg (not_true hc)] at hr
     refine W_skip ?_
     refine X_then ?_
     refine W_sr (WO_seg 1 [(29, .pointer (some ⟨b1, 0, none⟩))] kr kr ?_)
     refine WO_one rfl (One_load_own (d := 30) (t := 62) (x := (.tmp 29)) (.slice a1 (List.length p0.1) c1) kr rfl (ev (.pointer (some ⟨b1, 0, none⟩))) st.tail.head kr ?_)
     refine WO_seg 1 [(31, .int .i64 o1)] kr kr ?_
     replace ⟨x3, hx5, hr⟩ := bindS hr
     refine WO_one rfl (One_index (d := 32) (t := 62) (e := 111) (x := (.tmp 30)) (y := (.tmp 31)) (cPair (cPair (cInt .i64) (cPair cStr cStr)) (cSl (cInt .i64))) kr rfl (ev (.slice a1 (List.length p0.1) c1)) (ev (.int .i64 o1)) kr r1 hx5 ?_)
     rintro b5 f3 cs3 ⟨_, _, rfl, ⟨_, _, rfl, rfl, ⟨_, _, rfl, rfl, rfl⟩⟩, ⟨a4, c4, rfl, r4⟩⟩ hq3
     refine WO_seg 1 [(33, .pointer (some ⟨b5, f3 + 3, none⟩))] kr kr ?_
     refine WO_one rfl (One_load_row (d := 34) (t := 22) (x := (.tmp 33)) (.slice a4 (List.length x3.2) c4) kr rfl (ev (.pointer (some ⟨b5, f3 + 3, none⟩))) st (hq3.drop 3) kr ?_)
     replace ⟨y3, hx6, hr⟩ := bindS hr
     refine WO_one rfl (One_fn 35 92 #[.slice a4 (List.length x3.2) c4] kr rfl ?_)
     refine (slices_Clone_int_int_ok st r4 hx6).mono ?_
     clear st
     rintro _ w11 ⟨a5, c5, m9, rfl, hle5, st, r5⟩
     refine ⟨_, rfl, ?_⟩
     have hm := Mem.le_trans hm hle5
     have r1 := r1.mono hle5
     have hq3 := hq3.mono hle5
     have r4 := r4.mono hle5
     refine WO_seg 1 [(4, .slice a5 (List.length y3) c5)] kr kr ?_
     refine WO_et rfl (W_ret ?_)
     obtain rfl := Option.some.inj hr
     refine X_ret [.tmp 4] [.slice a5 (List.length y3) c5] rfl (ResAll.cons (ResAt.tmp kr) ResAll.nil) ?_
     have st := st.front1
     have st := st.tail
     have st := st.front1
     have st := st.tail
     exact ⟨a5, c5, m9, rfl, hm, st, r5⟩
   ·intro K
    clear hrK
    refine W_draw [(15, fun w' => Inv m4 w' ∧ Piece.holds m4 w' (.blk b2 (.cells #[.int .i64 p1.1, .string p1.2.1, .string p1.2.2] 29 (0, 0))) ∧ Piece.holds m4 w' (.blk b1 (.cells #[.slice a1 (List.length p0.1) c1, .int .i64 p0.2] 64 (0, 0))) ∧ True)] kr st ?_
    clear st
    intro w10 _ st
    have hmS2 := m4.le_refl
    refine ⟨⟨.inr ⟨Inv.anti st.inv hmS2, Piece.holds_anti st.head hmS2, Piece.holds_anti st.tail.head hmS2, trivial⟩, trivial⟩, ?_⟩
    refine WA_pure 0 14 (.int .i64 o1) kr rfl kr (.head _) (QP_then (QP_then QP_body)) ?_
    refine WA_pure 1 15 (.pointer (some ⟨b1, 0, none⟩)) kr rfl kr (.head _) (QP_then (QP_then QP_body)) ?_
    refine WA_load_own (t := 62) (x := (.tmp 15)) 2 16 (.slice a1 (List.length p0.1) c1) kr rfl kr (.head _) (QP_then (QP_then QP_body)) (fun _ h => h.2.2.1) (ev (.pointer (some ⟨b1, 0, none⟩))) kr ?_
    refine WA_pure 3 17 (.int .i64 (List.length p0.1 : Int)) kr rfl kr (.head _) (QP_then (QP_then QP_body)) ?_
    refine WA_pure 4 18 (.bool (o1 == (List.length p0.1 : Int))) kr rfl kr (.head _) (QP_then (QP_then QP_body)) ?_
    refine WA_pure 5 19 (.bool (o1 == (List.length p0.1 : Int))) kr rfl kr (.head _) (QP_then (QP_then QP_body)) ?_
    rcases bcases (o1 == (List.length p0.1 : Int)) with hc | hc
    ·rw [if_pos hc] at hr
     refine WA_fact (t := 19) (b := true) (o1 == (List.length p0.1 : Int)) kr hc ?_
     refine WA_not 6 20 kr rfl kr (.head _) (QP_then (QP_then QP_body)) ?_
     refine WA_not 7 21 kr rfl kr (.head _) (QP_then (QP_then QP_body)) ?_
     refine WA_not 8 22 kr rfl kr (.head _) (QP_then (QP_then QP_body)) ?_
     refine WA_not 9 23 kr rfl kr (.head _) (QP_then (QP_then QP_body)) ?_
     refine WA_not 10 24 kr rfl kr (.head _) (QP_then (QP_then QP_body)) ?_
     refine WA_not 11 25 kr rfl kr (.head _) (QP_then (QP_then QP_body)) ?_
     refine WA_not 12 26 kr rfl kr (.head _) (QP_then (QP_then QP_body)) ?_
     refine WA_not 13 27 kr rfl kr (.head _) (QP_then (QP_then QP_body)) ?_
     refine WA_pure 14 28 (.bool true) kr rfl kr (.head _) (QP_then (QP_then QP_body)) ?_
     obtain rfl := Option.some.inj hr
     have st := st.front1.front1
     exact WA_done kr (X_env _ kr (K _ _ ⟨m4, rfl, hm, st, r1⟩))
    ·rw [if_neg (not_true hc)] at hr
     refine WA_fact (t := 19) (b := false) (o1 == (List.length p0.1 : Int)) kr hc ?_
     refine WA_pure 6 20 (.pointer (some ⟨b1, 0, none⟩)) kr rfl kr (.head _) (QP_then (QP_then QP_body)) ?_
     refine WA_load_own (t := 62) (x := (.tmp 20)) 7 21 (.slice a1 (List.length p0.1) c1) kr rfl kr (.head _) (QP_then (QP_then QP_body)) (fun _ h => h.2.2.1) (ev (.pointer (some ⟨b1, 0, none⟩))) kr ?_
     refine WA_pure 8 22 (.int .i64 o1) kr rfl kr (.head _) (QP_then (QP_then QP_body)) ?_
     replace ⟨x2, hx4, hr⟩ := bindS hr
     refine WA_index (t := 62) (e := 111) (x := (.tmp 21)) (y := (.tmp 22)) 9 23 (cPair (cPair (cInt .i64) (cPair cStr cStr)) (cSl (cInt .i64))) kr rfl kr (.head _) (QP_then (QP_then QP_body)) (ev (.slice a1 (List.length p0.1) c1)) (ev (.int .i64 o1)) kr r1 hx4 ?_
     rintro b4 f2 cs2 ⟨_, _, rfl, ⟨_, _, rfl, rfl, ⟨_, _, rfl, rfl, rfl⟩⟩, ⟨a3, c3, rfl, r3⟩⟩ hq2
     refine WA_pure 10 24 (.pointer (some ⟨b4, f2, none⟩)) kr rfl kr (.head _) (QP_then (QP_then QP_body)) ?_
     refine WA_load_row (t := 29) (x := (.tmp 24)) 11 25 (.agg #[.int .i64 x2.1.1, .string x2.1.2.1, .string x2.1.2.2]) kr rfl kr (.head _) (QP_then (QP_then QP_body)) (fun _ h => h.1) (ev (.pointer (some ⟨b4, f2, none⟩))) hq2 kr ?_
     refine WA_load_own (t := 29) (x := (.tmp 3)) 12 26 (.agg #[.int .i64 p1.1, .string p1.2.1, .string p1.2.2]) kr rfl kr (.head _) (QP_then (QP_then QP_body)) (fun _ h => h.2.1) (ev (.pointer (some ⟨b2, 0, none⟩))) kr ?_
     refine WA_one 13 kr  (One_neAgg (d := 27) (t := 29) (t2 := 29) (x := (.tmp 25)) (y := (.tmp 26)) (xs := #[.int .i64 x2.1.1, .string x2.1.2.1, .string x2.1.2.2]) (ys := #[.int .i64 p1.1, .string p1.2.1, .string p1.2.2]) ((x2.1.1 == p1.1) && ((x2.1.2.1.toList == p1.2.1.toList) && ((x2.1.2.2.toList == p1.2.2.toList) && true))) kr rfl (ev (.agg #[.int .i64 x2.1.1, .string x2.1.2.1, .string x2.1.2.2])) (ev (.agg #[.int .i64 p1.1, .string p1.2.1, .string p1.2.2])) kr kr kr ?_)
     refine ⟨⟨.inr ⟨Inv.anti st.inv hmS2, Piece.holds_anti st.head hmS2, Piece.holds_anti st.tail.head hmS2, trivial⟩, trivial⟩, ?_⟩
     refine WA_pure 14 28 (.bool (!((x2.1.1 == p1.1) && ((x2.1.2.1.toList == p1.2.1.toList) && ((x2.1.2.2.toList == p1.2.2.toList) && true))))) kr rfl kr (.head _) (QP_then (QP_then QP_body)) ?_
     obtain rfl := Option.some.inj hr
     have st := st.front1.front1
     exact WA_done kr (X_env _ kr (K _ _ ⟨m4, rfl, hm, st, r1⟩))
  ·clear hrKu1
   refine W_calls Tryd.func90 rfl Tryd.ntmps90 [(0, .int .i64 (List.length p0.1 : Int)), (1, .func (.func 91) #[] #[.pointer (some ⟨b1, 0, none⟩), .pointer (some ⟨b2, 0, none⟩)])] kr rfl ?_
   refine W_sr (WO_seg 1 [] kr kr ?_)
   refine WO_et rfl (W_sr ?_)
   refine WO_seg 3 [(5, .int .i64 0), (6, .int .i64 (List.length p0.1 : Int))] kr kr ?_
   refine WO_et rfl (W_seq ?_)
   refine W_block ?_
   replace ⟨out1, hr, hrKu2⟩ := bindS hr
   refine W_cut (.exit 0) (fun L' w' => ∃ (o2 : Int) (m5 : Mem), o2 = out1 ∧ L' = [(5, .int .i64 o2)] ∧ m.le m5 ∧ St m5 (.blk b2 (.cells #[.int .i64 p1.1, .string p1.2.1, .string p1.2.2] 29 (0, 0)) :: .blk b1 (.cells #[.slice a1 (List.length p0.1) c1, .int .i64 p0.2] 64 (0, 0)) :: own) w' ∧ RepS (cPair (cPair (cInt .i64) (cPair cStr cStr)) (cSl (cInt .i64))) m5 a1 c1 p0.1) ?_ ?_
   ·clear hr st
    rintro _ w5 ⟨o2, m5, rfl, rfl, hm, st, r1⟩
    have hr := hrKu2
    clear hrKu2
    refine X_block_eq ?_
    refine X_then ?_
    refine W_sr (WO_seg 2 [(4, .int .i64 o2)] kr kr ?_)
    refine WO_et rfl (W_ret ?_)
    obtain rfl := Option.some.inj hr
    refine X_ret [.tmp 4] [.int .i64 o2] rfl (ResAll.cons (ResAt.tmp kr) ResAll.nil) ?_
    have st := st.front1.front1
    exact ⟨_, rfl, ⟨m5, rfl, hm, st, r1⟩⟩
   intro K0_u2
   clear hrKu2
   have st := st.front1.front1
   refine W_env _ kr (W_loop (fun k1 L' w' => ∃ (s1 : Int × Int) (m6 : Mem), loopM (index_Find_L1 N p0 p1) k1 s1 = some out1 ∧ L' = [(1, .func (.func 91) #[] #[.pointer (some ⟨b1, 0, none⟩), .pointer (some ⟨b2, 0, none⟩)]), (5, .int .i64 s1.1), (6, .int .i64 s1.2)] ∧ m.le m6 ∧ St m6 (.blk b2 (.cells #[.int .i64 p1.1, .string p1.2.1, .string p1.2.2] 29 (0, 0)) :: .blk b1 (.cells #[.slice a1 (List.length p0.1) c1, .int .i64 p0.2] 64 (0, 0)) :: own) w' ∧ RepS (cPair (cPair (cInt .i64) (cPair cStr cStr)) (cSl (cInt .i64))) m6 a1 c1 p0.1) N ⟨(0, (List.length p0.1 : Int)), m3, hr, rfl, hm, st, r1⟩ ?_)
   clear st hr
   rintro k1 _ w6 ⟨s1, m6, hL, rfl, hm, st, r1⟩
   rcases k1 with _ | k1
   ·exact loopM_zero hL
   ·obtain ⟨qu2, hr, hSu2, hBu2⟩ := loopM_succ hL
    clear hL
    unfold index_Find_L1 at hr
    refine W_seq ?_
    refine W_sr (WO_seg 3 [(11, .bool (decide (s1.1 < s1.2)))] kr kr ?_)
    refine WO_et rfl (W_cond (decide (s1.1 < s1.2)) kr ?_ ?_)
    ·intro hc
     rw [if_pos hc] at hr
     refine W_skip ?_
     refine X_then ?_
     refine W_block ?_
     refine W_sr (WO_seg 7 [(7, .int .i64 (IntKind.wrap .i64 (Int.fdiv (IntKind.wrap .u64 (IntKind.wrap .i64 (s1.1 + s1.2))) (2 ^ 1))))] kr kr ?_)
     refine WO_et rfl (W_sr ?_)
     refine WO_seg 2 [(18, .func (.func 91) #[] #[.pointer (some ⟨b1, 0, none⟩), .pointer (some ⟨b2, 0, none⟩)]), (19, .int .i64 (IntKind.wrap .i64 (Int.fdiv (IntKind.wrap .u64 (IntKind.wrap .i64 (s1.1 + s1.2))) (2 ^ 1))))] kr kr ?_
     refine WO_one rfl (One_fn 20 91 #[.int .i64 (IntKind.wrap .i64 (Int.fdiv (IntKind.wrap .u64 (IntKind.wrap .i64 (s1.1 + s1.2))) (2 ^ 1))), .pointer (some ⟨b1, 0, none⟩), .pointer (some ⟨b2, 0, none⟩)] kr rfl ?_)
     refine W_calls Tryd.func91 rfl Tryd.ntmps91 [(0, .int .i64 (IntKind.wrap .i64 (Int.fdiv (IntKind.wrap .u64 (IntKind.wrap .i64 (s1.1 + s1.2))) (2 ^ 1)))), (1, .pointer (some ⟨b1, 0, none⟩)), (2, .pointer (some ⟨b2, 0, none⟩))] kr rfl ?_
     refine W_sr (WO_seg 1 [] kr kr ?_)
     refine WO_et rfl (W_seq ?_)
     refine W_draw [(10, fun w' => Inv m6 w' ∧ Piece.holds m6 w' (.blk b2 (.cells #[.int .i64 p1.1, .string p1.2.1, .string p1.2.2] 29 (0, 0))) ∧ Piece.holds m6 w' (.blk b1 (.cells #[.slice a1 (List.length p0.1) c1, .int .i64 p0.2] 64 (0, 0))) ∧ True)] kr st ?_
     clear st
     intro w7 _ st
     have hmS1 := m6.le_refl
     refine ⟨⟨.inr ⟨Inv.anti st.inv hmS1, Piece.holds_anti st.head hmS1, Piece.holds_anti st.tail.head hmS1, trivial⟩, trivial⟩, ?_⟩
     refine WA_pure 0 5 (.pointer (some ⟨b1, 0, none⟩)) kr rfl kr (.head _) (QP_then QP_body) ?_
     refine WA_load_own (t := 62) (x := (.tmp 5)) 1 6 (.slice a1 (List.length p0.1) c1) kr rfl kr (.head _) (QP_then QP_body) (fun _ h => h.2.2.1) (ev (.pointer (some ⟨b1, 0, none⟩))) kr ?_
     refine WA_pure 2 7 (.int .i64 (IntKind.wrap .i64 (Int.fdiv (IntKind.wrap .u64 (IntKind.wrap .i64 (s1.1 + s1.2))) (2 ^ 1)))) kr rfl kr (.head _) (QP_then QP_body) ?_
     replace ⟨x1, hx2, hr⟩ := bindS hr
     refine WA_index (t := 62) (e := 111) (x := (.tmp 6)) (y := (.tmp 7)) 3 8 (cPair (cPair (cInt .i64) (cPair cStr cStr)) (cSl (cInt .i64))) kr rfl kr (.head _) (QP_then QP_body) (ev (.slice a1 (List.length p0.1) c1)) (ev (.int .i64 (IntKind.wrap .i64 (Int.fdiv (IntKind.wrap .u64 (IntKind.wrap .i64 (s1.1 + s1.2))) (2 ^ 1))))) kr r1 hx2 ?_
     rintro b3 f1 cs1 ⟨_, _, rfl, ⟨_, _, rfl, rfl, ⟨_, _, rfl, rfl, rfl⟩⟩, ⟨a2, c2, rfl, r2⟩⟩ hq1
     refine WA_pure 4 9 (.pointer (some ⟨b3, f1, none⟩)) kr rfl kr (.head _) (QP_then QP_body) ?_
     refine WA_load_row (t := 29) (x := (.tmp 9)) 5 10 (.agg #[.int .i64 x1.1.1, .string x1.1.2.1, .string x1.1.2.2]) kr rfl kr (.head _) (QP_then QP_body) (fun _ h => h.1) (ev (.pointer (some ⟨b3, f1, none⟩))) hq1 kr ?_
     refine WA_load_own (t := 29) (x := (.tmp 2)) 6 11 (.agg #[.int .i64 p1.1, .string p1.2.1, .string p1.2.2]) kr rfl kr (.head _) (QP_then QP_body) (fun _ h => h.2.1) (ev (.pointer (some ⟨b2, 0, none⟩))) kr ?_
     replace ⟨y2, hx3, hr⟩ := bindS hr
     refine WA_one 7 kr  (One_fn 12 67 #[.agg #[.int .i64 x1.1.1, .string x1.1.2.1, .string x1.1.2.2], .agg #[.int .i64 p1.1, .string p1.2.1, .string p1.2.2]] kr rfl ?_)
     refine (fact_Compare_ok st hx3).mono ?_
     clear st
     rintro _ w8 ⟨m7, rfl, hle4, st⟩
     refine ⟨_, rfl, ?_⟩
     have hm := Mem.le_trans hm hle4
     have r1 := r1.mono hle4
     have hq1 := hq1.mono hle4
     have r2 := r2.mono hle4
     have hmS1 := Mem.le_trans hmS1 hle4
     refine ⟨⟨.inr ⟨Inv.anti st.inv hmS1, Piece.holds_anti st.head hmS1, Piece.holds_anti st.tail.head hmS1, trivial⟩, trivial⟩, ?_⟩
     refine WA_pure 8 13 (.bool (decide (y2 ≥ 0))) kr rfl kr (.head _) (QP_then QP_body) ?_
     refine WA_pure 9 4 (.bool (decide (y2 ≥ 0))) kr rfl kr (.head _) (QP_then QP_body) ?_
     refine WA_done kr ?_
     refine X_then ?_
     refine W_ret ?_
     refine X_ret [.tmp 4] [.bool (decide (y2 ≥ 0))] rfl (ResAll.cons (ResAt.tmp kr) ResAll.nil) ?_
     refine ⟨_, rfl, ?_⟩
     refine WO_seg 1 [(21, .bool (!(decide (y2 ≥ 0))))] kr kr ?_
     refine WO_et rfl (W_cond (!(decide (y2 ≥ 0))) kr ?_ ?_)
     ·intro hc
      rw [if_pos hc] at hr
      refine W_region ?_
      refine WO_seg 3 [(5, .int .i64 (IntKind.wrap .i64 ((IntKind.wrap .i64 (Int.fdiv (IntKind.wrap .u64 (IntKind.wrap .i64 (s1.1 + s1.2))) (2 ^ 1))) + 1)))] kr kr ?_
      refine WO_end rfl ?_
      refine X_block ?_
      obtain rfl := Option.some.inj hr
      have hL := hSu2 _ rfl
      have st := st.front1.front1
      exact X_env _ kr (X_round k1 (Nat.lt_succ_self _) ⟨(IntKind.wrap .i64 ((IntKind.wrap .i64 (Int.fdiv (IntKind.wrap .u64 (IntKind.wrap .i64 (s1.1 + s1.2))) (2 ^ 1))) + 1), s1.2), m7, hL, rfl, hm, st, r1⟩)
     ·intro hc
      rw [if_neg (not_true hc)] at hr
      refine W_region ?_
      refine WO_seg 2 [(6, .int .i64 (IntKind.wrap .i64 (Int.fdiv (IntKind.wrap .u64 (IntKind.wrap .i64 (s1.1 + s1.2))) (2 ^ 1))))] kr kr ?_
      refine WO_end rfl ?_
      refine X_block ?_
      obtain rfl := Option.some.inj hr
      have hL := hSu2 _ rfl
      have st := st.front1.front1
      exact X_env _ kr (X_round k1 (Nat.lt_succ_self _) ⟨(s1.1, IntKind.wrap .i64 (Int.fdiv (IntKind.wrap .u64 (IntKind.wrap .i64 (s1.1 + s1.2))) (2 ^ 1))), m7, hL, rfl, hm, st, r1⟩)
    ·intro hc
     rw [if_neg (not_true hc)] at hr
     refine W_exit ?_
     refine X_then_exit ?_
     obtain rfl := Option.some.inj hr
     have ho := hBu2 _ rfl
     have st := st.front1.front1
     refine X_then_exit ?_
     exact X_env _ kr (K0_u2 _ _ ⟨s1.1, m6, ho, rfl, hm, st, r1⟩)
def index_divide_L1 (N : Nat) (p1 : List (Int × ByteArray × ByteArray)) (s1 : Int) : Option ((Int) ⊕ ((Unit) ⊕ (Int))) :=
 if (decide (s1 < (List.length p1 : Int))) = true then ((idx p1 s1).bind fun x1 => (index_divide_1 N (x1.1, x1.2.1, x1.2.2)).bind fun y2 => if y2 = true then (some (.inr (.inr (s1)))) else (some (.inl (IntKind.wrap .i64 (s1 + 1))))) else (some (.inr (.inl ())))
def index_divide_L3 (N : Nat) (y3 : List Int) (s3 : Int × List (Bool)) : Option ((Int × List (Bool)) ⊕ ((List (Bool)))) :=
 if (decide (s3.1 < (List.length y3 : Int))) = true then ((idx y3 s3.1).bind fun x3 => (idx s3.2 x3).bind fun x4 => some (.inl (IntKind.wrap .i64 (s3.1 + 1), List.set s3.2 (Int.toNat x3) true))) else (some (.inr s3.2))
def index_divide_L2 (N : Nat) (p0 : (List ((Int × ByteArray × ByteArray) × List Int)) × Int) (p1 : List (Int × ByteArray × ByteArray)) (s2 : Int × List (Bool)) : Option ((Int × List (Bool)) ⊕ ((List (Bool)))) :=
 if (decide (s2.1 < (List.length p1 : Int))) = true then ((idx p1 s2.1).bind fun x2 => (index_Find N (p0.1, p0.2) (x2.1, x2.2.1, x2.2.2)).bind fun y3 => (loopM (index_divide_L3 N y3) N (0, s2.2)).bind fun o5 => some (.inl (IntKind.wrap .i64 (s2.1 + 1), o5))) else (some (.inr s2.2))
def index_divide_L4 (N : Nat) (p0 : (List ((Int × ByteArray × ByteArray) × List Int)) × Int) (p2 : Bool) (o4 : List (Bool)) (s4 : List (Int) × Int) : Option ((List (Int) × Int) ⊕ ((List (Int)))) :=
 if (decide (s4.2 < ((Int.toNat p0.2) : Int))) = true then (((idx o4 s4.2).bind fun x5 => if (x5 == p2) = true then ((appendS 8 s4.1 ([s4.2])).bind fun l2 => some l2) else (some s4.1) : Option (List (Int))).bind fun o7 => some (.inl (o7, IntKind.wrap .i64 (s4.2 + 1)))) else (some (.inr s4.1))
def index_divide (N : Nat) (p0 : (List ((Int × ByteArray × ByteArray) × List Int)) × Int) (p1 : List (Int × ByteArray × ByteArray)) (p2 : Bool) : Option (List Int × Int) :=
 ((index_Check N (p0.1, p0.2)).bind fun y1 => if (!y1) = true then (some true) else (((loopM (index_divide_L1 N p1) N 0).bind fun out1 => (match out1 with | .inl o3 => some (-1) | .inr (z) => some z) : Option (Int)).bind fun o2 => some (decide (o2 ≥ 0))) : Option (Bool)).bind fun o1 => if o1 = true then (some (([] : List (Int)), 1)) else ((makeA 1 false p0.2).bind fun l1 => (loopM (index_divide_L2 N p0 p1) N (0, l1)).bind fun o4 => (loopM (index_divide_L4 N p0 p2 o4) N (([] : List (Int)), 0)).bind fun o6 => some (o6, 0))
set_option maxHeartbeats 4000000 in
set_option maxRecDepth 100000 in
theorem index_divide_ok {N : Nat} {m : Mem} {own : List Piece} {w : World} {p0 : (List ((Int × ByteArray × ByteArray) × List Int)) × Int} {p1 : List (Int × ByteArray × ByteArray)} {p2 : Bool} {a1 : Option Addr} {c1 : Nat} {a2 : Option Addr} {c2 : Nat} {r : List Int × Int} (st : St m (own) w) (r1 : RepS (cPair (cPair (cInt .i64) (cPair cStr cStr)) (cSl (cInt .i64))) m a1 c1 p0.1) (r2 : RepS (cPair (cInt .i64) (cPair cStr cStr)) m a2 c2 p1) (hr : index_divide N p0 p1 p2 = some r) : Calls Tryd.prog 63 #[.agg #[.slice a1 (List.length p0.1) c1, .int .i64 p0.2], .slice a2 (List.length p1) c2, .bool p2] w fun e w' => ∃ (ra1 : Option Addr) (rc1 : Nat) (m' : Mem), e = .returned (.tuple #[.slice ra1 (List.length r.1) rc1, .int .i64 r.2]) ∧ m.le m' ∧ St m' (.room ra1 (List.length r.1) rc1 3 1 :: own) w' ∧ RepS (cInt .i64) m' ra1 rc1 r.1 := by
 unfold index_divide at hr
 have hm := m.le_refl
 refine W_calls Tryd.func63 rfl Tryd.ntmps63 [(0, .agg #[.slice a1 (List.length p0.1) c1, .int .i64 p0.2]), (1, .slice a2 (List.length p1) c2), (2, .bool p2)] kr rfl ?_
 refine W_sr (WO_one rfl (One_box (d := 3) (e := 64) (x := (.tmp 0)) (.agg #[.slice a1 (List.length p0.1) c1, .int .i64 p0.2]) kr rfl kr st ?_))
 clear st
 intro b1 m1 w1 hle1 st hb1
 have hm := Mem.le_trans hm hle1
 have r1 := r1.mono hle1
 have r2 := r2.mono hle1
 refine WO_seg 2 [] kr kr ?_
 refine WO_et rfl (W_seq ?_)
 refine W_sr ?_
 replace ⟨o1, hr, hrK⟩ := bindS hr
 refine WO_cut (j := 7) (fun L' w' => ∃ (m2 : Mem), L' = [(1, .slice a2 (List.length p1) c2), (2, .bool p2), (3, .pointer (some ⟨b1, 0, none⟩)), (21, .bool o1)] ∧ m.le m2 ∧ St m2 (own) w' ∧ RepS (cPair (cInt .i64) (cPair cStr cStr)) m2 a2 c2 p1 ∧ MRow m2 b1 0 [.slice a1 (List.length p0.1) c1, .int .i64 p0.2] ∧ RepS (cPair (cPair (cInt .i64) (cPair cStr cStr)) (cSl (cInt .i64))) m2 a1 c1 p0.1) ?_ ?_
 ·clear hr st
  have hr := hrK
  clear hrK
  rintro _ w2 ⟨m2, rfl, hm, st, r2, hb1, r1⟩
  refine WO_et rfl (W_cond o1 kr ?_ ?_)
  ·intro hc
   rw [if_pos hc] at hr
   refine W_sr (WO_seg 2 [(6, .slice none (List.length ([] : List (Int))) 0), (7, .int .i64 1)] kr kr ?_)
   refine WO_et rfl (W_ret ?_)
   refine X_then_ret ?_
   obtain rfl := Option.some.inj hr
   refine X_ret [.tmp 6, .tmp 7] [.slice none (List.length ([] : List (Int))) 0, .int .i64 1] rfl (ResAll.cons (ResAt.tmp kr) (ResAll.cons (ResAt.tmp kr) ResAll.nil)) ?_
   have st := st.nilroom 3 1
   exact ⟨none, 0, m2, rfl, hm, st, (RepS.nil _ _)⟩
  ·intro hc
   rw [if_neg (not_true hc)] at hr
   refine W_skip ?_
   refine X_then ?_
   refine W_sr (WO_seg 1 [(22, .pointer (some ⟨b1, 1, none⟩))] kr kr ?_)
   refine WO_one rfl (One_load_row (d := 23) (t := 3) (x := (.tmp 22)) (.int .i64 p0.2) kr rfl (ev (.pointer (some ⟨b1, 1, none⟩))) st (hb1.drop 1) kr ?_)
   replace ⟨l1, hx4, hr⟩ := bindS hr
   refine WO_one rfl (One_makeArr (d := 24) (t := 144) (e := 4) (by_ := 1) (x := (.tmp 23)) (y := (.tmp 23)) (fun x : Bool => Value.bool x) kr rfl (ev (.int .i64 p0.2)) (ev (.int .i64 p0.2)) kr kr rfl st hx4 ?_)
   clear st
   intro b3 w8 hn1 st
   refine WO_seg 1 [(8, .slice (some ⟨b3, 0, none⟩) (Int.toNat p0.2) (Int.toNat p0.2))] kr kr ?_
   refine WO_et rfl (W_seq ?_)
   refine W_sr (WO_seg 3 [(25, .slice a2 (List.length p1) c2), (26, .int .i64 (List.length p1 : Int)), (27, .int .i64 0)] kr kr ?_)
   refine WO_et rfl (W_block ?_)
   replace ⟨out2, hr, hrKu3⟩ := bindS hr
   refine W_cut (.exit 0) (fun L' w' => ∃ (o4 : List (Bool)) (m8 : Mem), o4 = out2 ∧ L' = [(2, .bool p2), (8, .slice (some ⟨b3, 0, none⟩) (Int.toNat p0.2) (Int.toNat p0.2))] ∧ m.le m8 ∧ St m8 (.blk b3 (.cells (acells (fun x : Bool => Value.bool x) o4 []) 4 (0, 0)) :: own) w' ∧ List.length o4 = (Int.toNat p0.2)) ?_ ?_
   ·clear hr st
    rintro _ w9 ⟨o4, m8, rfl, rfl, hm, st, hn2⟩
    have hr := hrKu3
    clear hrKu3
    refine X_block_eq ?_
    refine X_then ?_
    refine W_sr (WO_seg 1 [(13, .slice none (List.length ([] : List (Int))) 0)] kr kr ?_)
    refine WO_et rfl (W_seq ?_)
    refine W_sr (WO_seg 3 [(45, .int .i64 ((Int.toNat p0.2) : Int)), (46, .int .i64 0)] kr kr ?_)
    refine WO_et rfl (W_block ?_)
    replace ⟨out4, hr, hrKu5⟩ := bindS hr
    refine W_cut (.exit 4) (fun L' w' => ∃ (o6 : List (Int)) (a4 : Option Addr) (c4 : Nat) (m13 : Mem), o6 = out4 ∧ L' = [(13, .slice a4 (List.length o6) c4)] ∧ m.le m13 ∧ St m13 (.blk b3 (.cells (acells (fun x : Bool => Value.bool x) o4 []) 4 (0, 0)) :: .room a4 (List.length o6) c4 3 1 :: own) w' ∧ RepS (cInt .i64) m13 a4 c4 o6 ∧ List.length o4 = (Int.toNat p0.2)) ?_ ?_
    ·clear hr st
     rintro _ w17 ⟨o6, a4, c4, m13, rfl, rfl, hm, st, r4, hn2⟩
     have hr := hrKu5
     clear hrKu5
     refine X_block_eq ?_
     refine X_then ?_
     refine W_sr (WO_seg 3 [(6, .slice a4 (List.length o6) c4), (7, .int .i64 0)] kr kr ?_)
     refine WO_et rfl (W_ret ?_)
     obtain rfl := Option.some.inj hr
     refine X_ret [.tmp 6, .tmp 7] [.slice a4 (List.length o6) c4, .int .i64 0] rfl (ResAll.cons (ResAt.tmp kr) (ResAll.cons (ResAt.tmp kr) ResAll.nil)) ?_
     have st := st.tail
     exact ⟨a4, c4, m13, rfl, hm, st, r4⟩
    intro K4_u5
    clear hrKu5
    have st := st.nilroom 3 1
    have st := st.front1
    refine W_env _ kr (W_loop (fun k4 L' w' => ∃ (s4 : List (Int) × Int) (a5 : Option Addr) (c5 : Nat) (m14 : Mem), loopM (index_divide_L4 N p0 p2 o4) k4 s4 = some out4 ∧ L' = [(2, .bool p2), (8, .slice (some ⟨b3, 0, none⟩) (Int.toNat p0.2) (Int.toNat p0.2)), (13, .slice a5 (List.length s4.1) c5), (45, .int .i64 ((Int.toNat p0.2) : Int)), (46, .int .i64 s4.2)] ∧ m.le m14 ∧ St m14 (.blk b3 (.cells (acells (fun x : Bool => Value.bool x) o4 []) 4 (0, 0)) :: .room a5 (List.length s4.1) c5 3 1 :: own) w' ∧ RepS (cInt .i64) m14 a5 c5 s4.1 ∧ List.length o4 = (Int.toNat p0.2)) N ⟨(([] : List (Int)), 0), none, 0, m8, hr, rfl, hm, st, (RepS.nil _ _), hn2⟩ ?_)
    clear st hr
    rintro k4 _ w18 ⟨s4, a5, c5, m14, hL, rfl, hm, st, r5, hn2⟩
    rcases k4 with _ | k4
    ·exact loopM_zero hL
    ·obtain ⟨qu5, hr, hSu5, hBu5⟩ := loopM_succ hL
     clear hL
     unfold index_divide_L4 at hr
     refine W_sr (WO_seg 1 [(47, .bool (decide (s4.2 < ((Int.toNat p0.2) : Int))))] kr kr ?_)
     refine WO_et rfl (W_seq ?_)
     refine W_cond (decide (s4.2 < ((Int.toNat p0.2) : Int))) kr ?_ ?_
     ·intro hc
      rw [if_pos hc] at hr
      refine W_skip ?_
      refine X_then ?_
      refine W_seq ?_
      replace ⟨o7, hr, hrKu6⟩ := bindS hr
      refine W_cut .normal (fun L' w' => ∃ (a6 : Option Addr) (c6 : Nat) (m15 : Mem), L' = [(2, .bool p2), (8, .slice (some ⟨b3, 0, none⟩) (Int.toNat p0.2) (Int.toNat p0.2)), (13, .slice a6 (List.length o7) c6), (45, .int .i64 ((Int.toNat p0.2) : Int)), (46, .int .i64 s4.2)] ∧ m.le m15 ∧ St m15 (.blk b3 (.cells (acells (fun x : Bool => Value.bool x) o4 []) 4 (0, 0)) :: .room a6 (List.length o7) c6 3 1 :: own) w' ∧ RepS (cInt .i64) m15 a6 c6 o7 ∧ List.length o4 = (Int.toNat p0.2)) ?_ ?_
      ·clear hr st
       have hr := hrKu6
       clear hrKu6
       rintro _ w19 ⟨a6, c6, m15, rfl, hm, st, r6, hn2⟩
       refine X_then ?_
       refine W_region ?_
       refine WO_seg 2 [(46, .int .i64 (IntKind.wrap .i64 (s4.2 + 1)))] kr kr ?_
       refine WO_end rfl ?_
       obtain rfl := Option.some.inj hr
       have hL := hSu5 _ rfl
       have st := st.front1.front1
       exact X_env _ kr (X_round k4 (Nat.lt_succ_self _) ⟨(o7, IntKind.wrap .i64 (s4.2 + 1)), a6, c6, m15, hL, rfl, hm, st, r6, hn2⟩)
      ·intro Ku6
       clear hrKu6
       refine W_block ?_
       refine W_sr (WO_seg 2 [(14, .int .i64 s4.2)] kr kr ?_)
       refine WO_et rfl (W_sr ?_)
       refine WO_seg 2 [(49, .slice (some ⟨b3, 0, none⟩) (Int.toNat p0.2) (Int.toNat p0.2)), (50, .int .i64 s4.2)] kr kr ?_
       replace ⟨x5, hx9, hr⟩ := bindS hr
       refine WO_one rfl (One_arrIndex (d := 51) (t := 144) (e := 4) (x := (.tmp 49)) (y := (.tmp 50)) kr rfl (ev (.slice (some ⟨b3, 0, none⟩) (Int.toNat p0.2) (Int.toNat p0.2))) (ev (.int .i64 s4.2)) kr hn2 hx9 ?_)
       refine WO_one rfl (One_arrLoad (d := 52) (t := 4) (x := (.tmp 51)) kr rfl (ev (.pointer (some ⟨b3, Int.toNat s4.2, none⟩))) st.head hx9 kr ?_)
       refine WO_seg 2 [(54, .bool (x5 == p2))] kr kr ?_
       refine WO_et rfl (W_cond (x5 == p2) kr ?_ ?_)
       ·intro hc
        rw [if_pos hc] at hr
        refine W_region ?_
        refine WO_seg 2 [(55, .slice a5 (List.length s4.1) c5), (56, .int .i64 s4.2)] kr kr ?_
        refine WO_one rfl (One_buildSlice (d := 57) (t := 22) (e := 3) (len := 1) (parts := #[(0, (.tmp 56))]) (cInt .i64) (xs := [s4.2]) [.int .i64 s4.2] kr rfl (fun _ => buildCells_run kr _) rfl rfl st ⟨[.int .i64 s4.2], _, rfl, rfl, rfl⟩ ?_)
        clear st
        intro b7 m16 w20 hle5 st r7
        have hm := Mem.le_trans hm hle5
        have r5 := r5.mono hle5
        have st := st.front2
        replace ⟨l2, hx10, hr⟩ := bindS hr
        refine WO_one rfl (One_append (d := 58) (t := 22) (u := 22) (e := 3) (by_ := 8) (x := (.tmp 55)) (y := (.tmp 57)) (cInt .i64) kr rfl (ev (.slice a5 (List.length s4.1) c5)) (ev (.slice (some ⟨b7, 0, none⟩) (List.length ([s4.2])) 1)) st kr (.inl kr) r5 r7.src hx10 ?_)
        clear st
        intro a7 c7 m17 w21 hle6 st r8
        have hm := Mem.le_trans hm hle6
        have r5 := r5.mono hle6
        have r7 := r7.mono hle6
        refine WO_seg 1 [(13, .slice a7 (List.length l2) c7)] kr kr ?_
        refine WO_end rfl ?_
        have st := st.front1
        have st := st.tail
        refine X_block ?_
        obtain rfl := Option.some.inj hr
        have st := st.front1
        exact X_env _ kr (Ku6 _ _ ⟨a7, c7, m17, rfl, hm, st, r8, hn2⟩)
       ·intro hc
        rw [if_neg (not_true hc)] at hr
        refine W_skip ?_
        refine X_block ?_
        obtain rfl := Option.some.inj hr
        have st := st.front1.front1
        exact X_env _ kr (Ku6 _ _ ⟨a5, c5, m14, rfl, hm, st, r5, hn2⟩)
     ·intro hc
      rw [if_neg (not_true hc)] at hr
      refine W_exit ?_
      refine X_then_exit ?_
      obtain rfl := Option.some.inj hr
      have ho := hBu5 _ rfl
      have st := st.front1.front1
      refine X_then_exit ?_
      exact X_env _ kr (K4_u5 _ _ ⟨s4.1, a5, c5, m14, ho, rfl, hm, st, r5, hn2⟩)
   intro K0_u3
   clear hrKu3
   refine W_env _ kr (W_loop (fun k2 L' w' => ∃ (s2 : Int × List (Bool)) (m9 : Mem), loopM (index_divide_L2 N p0 p1) k2 s2 = some out2 ∧ L' = [(2, .bool p2), (3, .pointer (some ⟨b1, 0, none⟩)), (8, .slice (some ⟨b3, 0, none⟩) (Int.toNat p0.2) (Int.toNat p0.2)), (25, .slice a2 (List.length p1) c2), (26, .int .i64 (List.length p1 : Int)), (27, .int .i64 s2.1)] ∧ m.le m9 ∧ St m9 (.blk b3 (.cells (acells (fun x : Bool => Value.bool x) s2.2 []) 4 (0, 0)) :: own) w' ∧ MRow m9 b1 0 [.slice a1 (List.length p0.1) c1, .int .i64 p0.2] ∧ RepS (cPair (cPair (cInt .i64) (cPair cStr cStr)) (cSl (cInt .i64))) m9 a1 c1 p0.1 ∧ RepS (cPair (cInt .i64) (cPair cStr cStr)) m9 a2 c2 p1 ∧ List.length s2.2 = (Int.toNat p0.2)) N ⟨(0, l1), m2, hr, rfl, hm, st, hb1, r1, r2, hn1⟩ ?_)
   clear st hr
   rintro k2 _ w10 ⟨s2, m9, hL, rfl, hm, st, hb1, r1, r2, hn3⟩
   rcases k2 with _ | k2
   ·exact loopM_zero hL
   ·obtain ⟨qu3, hr, hSu3, hBu3⟩ := loopM_succ hL
    clear hL
    unfold index_divide_L2 at hr
    refine W_sr (WO_seg 1 [(28, .bool (decide (s2.1 < (List.length p1 : Int))))] kr kr ?_)
    refine WO_et rfl (W_seq ?_)
    refine W_cond (decide (s2.1 < (List.length p1 : Int))) kr ?_ ?_
    ·intro hc
     rw [if_pos hc] at hr
     refine W_skip ?_
     refine X_then ?_
     refine W_seq ?_
     refine W_block ?_
     refine W_sr ?_
     replace ⟨x2, hx5, hr⟩ := bindS hr
     refine WO_one rfl (One_index (d := 29) (t := 23) (e := 29) (x := (.tmp 25)) (y := (.tmp 27)) (cPair (cInt .i64) (cPair cStr cStr)) kr rfl (ev (.slice a2 (List.length p1) c2)) (ev (.int .i64 s2.1)) kr r2 hx5 ?_)
     rintro b4 f2 cs2 ⟨_, _, rfl, rfl, ⟨_, _, rfl, rfl, rfl⟩⟩ hq2
     refine WO_one rfl (One_load_row (d := 30) (t := 29) (x := (.tmp 29)) (.agg #[.int .i64 x2.1, .string x2.2.1, .string x2.2.2]) kr rfl (ev (.pointer (some ⟨b4, f2, none⟩))) st hq2 kr ?_)
     refine WO_one rfl (One_alloc (d := 10) (e := 29) (.agg #[.int .i64 0, .string (⟨#[]⟩ : ByteArray), .string (⟨#[]⟩ : ByteArray)]) kr rfl kr st ?_)
     clear st
     intro b5 w11 st
     refine WO_one rfl (One_store (t := 29) (x := (.tmp 10)) (y := (.tmp 30)) (v := .agg #[.int .i64 x2.1, .string x2.2.1, .string x2.2.2]) (c' := #[.int .i64 x2.1, .string x2.2.1, .string x2.2.2]) kr (ev (.pointer (some ⟨b5, 0, none⟩))) (ev (.agg #[.int .i64 x2.1, .string x2.2.1, .string x2.2.2])) st kr kr ?_)
     clear st
     intro w12 st
     refine WO_et rfl (W_sr ?_)
     refine WO_one rfl (One_load_row (d := 31) (t := 64) (x := (.tmp 3)) (.agg #[.slice a1 (List.length p0.1) c1, .int .i64 p0.2]) kr rfl (ev (.pointer (some ⟨b1, 0, none⟩))) st hb1 kr ?_)
     refine WO_one rfl (One_load_own (d := 32) (t := 29) (x := (.tmp 10)) (.agg #[.int .i64 x2.1, .string x2.2.1, .string x2.2.2]) kr rfl (ev (.pointer (some ⟨b5, 0, none⟩))) st.head kr ?_)
     replace ⟨y3, hx6, hr⟩ := bindS hr
     refine WO_one rfl (One_fn 33 62 #[.agg #[.slice a1 (List.length p0.1) c1, .int .i64 p0.2], .agg #[.int .i64 x2.1, .string x2.2.1, .string x2.2.2]] kr rfl ?_)
     refine (index_Find_ok st r1 hx6).mono ?_
     clear st
     rintro _ w13 ⟨a3, c3, m10, rfl, hle4, st, r3⟩
     refine ⟨_, rfl, ?_⟩
     have hm := Mem.le_trans hm hle4
     have hb1 := hb1.mono hle4
     have r1 := r1.mono hle4
     have r2 := r2.mono hle4
     refine WO_seg 2 [(34, .int .i64 (List.length y3 : Int)), (35, .int .i64 0)] kr kr ?_
     refine WO_et rfl (W_block ?_)
     replace ⟨out3, hr, hrKu4⟩ := bindS hr
     refine W_cut (.exit 2) (fun L' w' => ∃ (o5 : List (Bool)) (m11 : Mem), o5 = out3 ∧ L' = [(2, .bool p2), (3, .pointer (some ⟨b1, 0, none⟩)), (8, .slice (some ⟨b3, 0, none⟩) (Int.toNat p0.2) (Int.toNat p0.2)), (25, .slice a2 (List.length p1) c2), (26, .int .i64 (List.length p1 : Int)), (27, .int .i64 s2.1)] ∧ m.le m11 ∧ St m11 (.blk b5 (.cells #[.int .i64 x2.1, .string x2.2.1, .string x2.2.2] 29 (0, 0)) :: .blk b3 (.cells (acells (fun x : Bool => Value.bool x) o5 []) 4 (0, 0)) :: .room a3 (List.length y3) c3 3 1 :: own) w' ∧ MRow m11 b1 0 [.slice a1 (List.length p0.1) c1, .int .i64 p0.2] ∧ RepS (cPair (cPair (cInt .i64) (cPair cStr cStr)) (cSl (cInt .i64))) m11 a1 c1 p0.1 ∧ RepS (cPair (cInt .i64) (cPair cStr cStr)) m11 a2 c2 p1 ∧ List.length o5 = (Int.toNat p0.2)) ?_ ?_
     ·clear hr st
      rintro _ w14 ⟨o5, m11, rfl, rfl, hm, st, hb1, r1, r2, hn4⟩
      have hr := hrKu4
      clear hrKu4
      refine X_block_eq ?_
      refine X_block ?_
      refine X_then ?_
      refine W_region ?_
      refine WO_seg 2 [(27, .int .i64 (IntKind.wrap .i64 (s2.1 + 1)))] kr kr ?_
      refine WO_end rfl ?_
      have st := st.front2
      have st := st.tail
      obtain rfl := Option.some.inj hr
      have hL := hSu3 _ rfl
      have st := st.tail
      exact X_env _ kr (X_round k2 (Nat.lt_succ_self _) ⟨(IntKind.wrap .i64 (s2.1 + 1), o5), m11, hL, rfl, hm, st, hb1, r1, r2, hn4⟩)
     intro K2_u4
     clear hrKu4
     have st := st.front2.front2
     refine W_env _ kr (W_loop (fun k3 L' w' => ∃ (s3 : Int × List (Bool)) (m12 : Mem), loopM (index_divide_L3 N y3) k3 s3 = some out3 ∧ L' = [(2, .bool p2), (3, .pointer (some ⟨b1, 0, none⟩)), (8, .slice (some ⟨b3, 0, none⟩) (Int.toNat p0.2) (Int.toNat p0.2)), (25, .slice a2 (List.length p1) c2), (26, .int .i64 (List.length p1 : Int)), (27, .int .i64 s2.1), (33, .slice a3 (List.length y3) c3), (34, .int .i64 (List.length y3 : Int)), (35, .int .i64 s3.1)] ∧ m.le m12 ∧ St m12 (.blk b5 (.cells #[.int .i64 x2.1, .string x2.2.1, .string x2.2.2] 29 (0, 0)) :: .blk b3 (.cells (acells (fun x : Bool => Value.bool x) s3.2 []) 4 (0, 0)) :: .room a3 (List.length y3) c3 3 1 :: own) w' ∧ MRow m12 b1 0 [.slice a1 (List.length p0.1) c1, .int .i64 p0.2] ∧ RepS (cPair (cPair (cInt .i64) (cPair cStr cStr)) (cSl (cInt .i64))) m12 a1 c1 p0.1 ∧ RepS (cPair (cInt .i64) (cPair cStr cStr)) m12 a2 c2 p1 ∧ RepS (cInt .i64) m12 a3 c3 y3 ∧ List.length s3.2 = (Int.toNat p0.2)) N ⟨(0, s2.2), m10, hr, rfl, hm, st, hb1, r1, r2, r3, hn3⟩ ?_)
     clear st hr
     rintro k3 _ w15 ⟨s3, m12, hL, rfl, hm, st, hb1, r1, r2, r3, hn5⟩
     rcases k3 with _ | k3
     ·exact loopM_zero hL
     ·obtain ⟨qu4, hr, hSu4, hBu4⟩ := loopM_succ hL
      clear hL
      unfold index_divide_L3 at hr
      refine W_sr (WO_seg 1 [(36, .bool (decide (s3.1 < (List.length y3 : Int))))] kr kr ?_)
      refine WO_et rfl (W_seq ?_)
      refine W_cond (decide (s3.1 < (List.length y3 : Int))) kr ?_ ?_
      ·intro hc
       rw [if_pos hc] at hr
       refine W_skip ?_
       refine X_then ?_
       refine W_seq ?_
       refine W_block ?_
       refine W_sr ?_
       replace ⟨x3, hx7, hr⟩ := bindS hr
       refine WO_one rfl (One_index (d := 37) (t := 22) (e := 3) (x := (.tmp 33)) (y := (.tmp 35)) (cInt .i64) kr rfl (ev (.slice a3 (List.length y3) c3)) (ev (.int .i64 s3.1)) kr r3 hx7 ?_)
       rintro b6 f3 cs3 rfl hq3
       refine WO_one rfl (One_load_row (d := 38) (t := 3) (x := (.tmp 37)) (.int .i64 x3) kr rfl (ev (.pointer (some ⟨b6, f3, none⟩))) st hq3 kr ?_)
       refine WO_seg 1 [(12, .int .i64 x3)] kr kr ?_
       refine WO_et rfl (W_region ?_)
       refine WO_seg 2 [(39, .slice (some ⟨b3, 0, none⟩) (Int.toNat p0.2) (Int.toNat p0.2)), (40, .int .i64 x3)] kr kr ?_
       replace ⟨x4, hx8, hr⟩ := bindS hr
       refine WO_one rfl (One_arrIndex (d := 41) (t := 144) (e := 4) (x := (.tmp 39)) (y := (.tmp 40)) kr rfl (ev (.slice (some ⟨b3, 0, none⟩) (Int.toNat p0.2) (Int.toNat p0.2))) (ev (.int .i64 x3)) kr hn5 hx8 ?_)
       have st := st.front1
       refine WO_one rfl (One_arrStore (f := (fun x : Bool => Value.bool x)) (u := true) (t := 4) (x := (.tmp 41)) (y := (.const (.bool true))) kr (ev (.pointer (some ⟨b3, Int.toNat x3, none⟩))) (ev (.bool true)) st hx8 rfl kr ?_)
       clear st
       intro w16 st
       have hn6 : List.length (List.set s3.2 (Int.toNat x3) true) = (Int.toNat p0.2) := set_len hn5 _ _
       refine WO_end rfl ?_
       refine X_block ?_
       refine X_then ?_
       refine W_region ?_
       refine WO_seg 2 [(35, .int .i64 (IntKind.wrap .i64 (s3.1 + 1)))] kr kr ?_
       refine WO_end rfl ?_
       obtain rfl := Option.some.inj hr
       have hL := hSu4 _ rfl
       have st := st.front2.front1.front2
       exact X_env _ kr (X_round k3 (Nat.lt_succ_self _) ⟨(IntKind.wrap .i64 (s3.1 + 1), List.set s3.2 (Int.toNat x3) true), m12, hL, rfl, hm, st, hb1, r1, r2, r3, hn6⟩)
      ·intro hc
       rw [if_neg (not_true hc)] at hr
       refine W_exit ?_
       refine X_then_exit ?_
       obtain rfl := Option.some.inj hr
       have ho := hBu4 _ rfl
       have st := st.front2.front2.front2
       refine X_then_exit ?_
       exact X_env _ kr (K2_u4 _ _ ⟨s3.2, m12, ho, rfl, hm, st, hb1, r1, r2, hn5⟩)
    ·intro hc
     rw [if_neg (not_true hc)] at hr
     refine W_exit ?_
     refine X_then_exit ?_
     obtain rfl := Option.some.inj hr
     have ho := hBu3 _ rfl
     refine X_then_exit ?_
     exact X_env _ kr (K0_u3 _ _ ⟨s2.2, m9, ho, rfl, hm, st, hn3⟩)
 ·intro K
  clear hrK
  refine WO_one rfl (One_load_row (d := 15) (t := 64) (x := (.tmp 3)) (.agg #[.slice a1 (List.length p0.1) c1, .int .i64 p0.2]) kr rfl (ev (.pointer (some ⟨b1, 0, none⟩))) st hb1 kr ?_)
  replace ⟨y1, hx1, hr⟩ := bindS hr
  refine WO_one rfl (One_fn 16 60 #[.agg #[.slice a1 (List.length p0.1) c1, .int .i64 p0.2]] kr rfl ?_)
  refine (index_Check_ok st r1 hx1).mono ?_
  clear st
  rintro _ w3 ⟨m3, rfl, hle2, st⟩
  refine ⟨_, rfl, ?_⟩
  have hm := Mem.le_trans hm hle2
  have r2 := r2.mono hle2
  have hb1 := hb1.mono hle2
  have r1 := r1.mono hle2
  refine WO_seg 2 [(18, .bool (!y1))] kr kr ?_
  rcases bcases (!y1) with hc | hc
  ·rw [if_pos hc] at hr
   refine WO_fact (t := 18) (b := true) (!y1) kr hc ?_
   refine WO_seg 3 [(21, .bool true)] kr kr ?_
   obtain rfl := Option.some.inj hr
   exact WO_env _ kr (K _ _ ⟨m3, rfl, hm, st, r2, hb1, r1⟩)
  ·rw [if_neg (not_true hc)] at hr
   refine WO_fact (t := 18) (b := false) (!y1) kr hc ?_
   refine WO_seg 1 [(19, .slice a2 (List.length p1) c2)] kr kr ?_
   refine WO_one rfl (One_fn 20 93 #[.slice a2 (List.length p1) c2, .func (.func 94) #[] #[]] kr rfl ?_)
   refine W_calls Tryd.func93 rfl Tryd.ntmps93 [(0, .slice a2 (List.length p1) c2), (1, .func (.func 94) #[] #[])] kr rfl ?_
   refine W_sr (WO_seg 1 [] kr kr ?_)
   refine WO_et rfl (W_sr ?_)
   refine WO_seg 2 [(5, .slice a2 (List.length p1) c2), (6, .func (.func 94) #[] #[])] kr kr ?_
   replace ⟨o2, hr, hrKu1⟩ := bindS hr
   refine WO_one rfl (One_fn 7 112 #[.slice a2 (List.length p1) c2, .func (.func 94) #[] #[]] kr rfl ?_)
   refine Calls_cut (fun v' w' => ∃ (m4 : Mem), v' = (.int .i64 o2) ∧ m.le m4 ∧ St m4 (own) w' ∧ RepS (cPair (cInt .i64) (cPair cStr cStr)) m4 a2 c2 p1 ∧ MRow m4 b1 0 [.slice a1 (List.length p0.1) c1, .int .i64 p0.2] ∧ RepS (cPair (cPair (cInt .i64) (cPair cStr cStr)) (cSl (cInt .i64))) m4 a1 c1 p0.1) ?_ ?_
   ·clear hr st
    have hr := hrKu1
    clear hrKu1
    rintro _ w4 ⟨m4, rfl, hm, st, r2, hb1, r1⟩
    refine ⟨_, rfl, ?_⟩
    refine WO_seg 2 [(4, .bool (decide (o2 ≥ 0)))] kr kr ?_
    refine WO_et rfl (W_ret ?_)
    refine X_ret [.tmp 4] [.bool (decide (o2 ≥ 0))] rfl (ResAll.cons (ResAt.tmp kr) ResAll.nil) ?_
    refine ⟨_, rfl, ?_⟩
    refine WO_seg 1 [(21, .bool (decide (o2 ≥ 0)))] kr kr ?_
    obtain rfl := Option.some.inj hr
    exact WO_env _ kr (K _ _ ⟨m4, rfl, hm, st, r2, hb1, r1⟩)
   ·clear hrKu1
    refine W_calls Tryd.func112 rfl Tryd.ntmps112 [(0, .slice a2 (List.length p1) c2), (1, .func (.func 94) #[] #[])] kr rfl ?_
    refine W_sr (WO_seg 1 [] kr kr ?_)
    refine WO_et rfl (W_seq ?_)
    refine W_sr (WO_seg 3 [(7, .int .i64 (List.length p1 : Int)), (8, .int .i64 0)] kr kr ?_)
    refine WO_et rfl (W_block ?_)
    replace ⟨out1, hr, hrKu2⟩ := bindS hr
    refine W_cut (.exit 0) (fun L' w' => ∃ (o3 : Unit) (m5 : Mem), (.inl o3) = out1 ∧ L' = [] ∧ m.le m5 ∧ St m5 (own) w' ∧ RepS (cPair (cInt .i64) (cPair cStr cStr)) m5 a2 c2 p1 ∧ MRow m5 b1 0 [.slice a1 (List.length p0.1) c1, .int .i64 p0.2] ∧ RepS (cPair (cPair (cInt .i64) (cPair cStr cStr)) (cSl (cInt .i64))) m5 a1 c1 p0.1) ?_ ?_
    ·clear hr st
     rintro _ w5 ⟨o3, m5, rfl, rfl, hm, st, r2, hb1, r1⟩
     have hr := hrKu2
     clear hrKu2
     dsimp only at hr
     refine X_block_eq ?_
     refine X_then ?_
     refine W_sr (WO_seg 1 [(4, .int .i64 (-1))] kr kr ?_)
     refine WO_et rfl (W_ret ?_)
     obtain rfl := Option.some.inj hr
     refine X_ret [.tmp 4] [.int .i64 (-1)] rfl (ResAll.cons (ResAt.tmp kr) ResAll.nil) ?_
     exact ⟨_, rfl, ⟨m5, rfl, hm, st, r2, hb1, r1⟩⟩
    intro K0_u2
    refine W_env _ kr (W_loop (fun k1 L' w' => ∃ (s1 : Int) (m6 : Mem), loopM (index_divide_L1 N p1) k1 s1 = some out1 ∧ L' = [(0, .slice a2 (List.length p1) c2), (1, .func (.func 94) #[] #[]), (7, .int .i64 (List.length p1 : Int)), (8, .int .i64 s1)] ∧ m.le m6 ∧ St m6 (own) w' ∧ RepS (cPair (cInt .i64) (cPair cStr cStr)) m6 a2 c2 p1 ∧ MRow m6 b1 0 [.slice a1 (List.length p0.1) c1, .int .i64 p0.2] ∧ RepS (cPair (cPair (cInt .i64) (cPair cStr cStr)) (cSl (cInt .i64))) m6 a1 c1 p0.1) N ⟨0, m3, hr, rfl, hm, st, r2, hb1, r1⟩ ?_)
    clear st hr
    rintro k1 _ w6 ⟨s1, m6, hL, rfl, hm, st, r2, hb1, r1⟩
    rcases k1 with _ | k1
    ·exact loopM_zero hL
    ·obtain ⟨qu2, hr, hSu2, hBu2⟩ := loopM_succ hL
     clear hL
     unfold index_divide_L1 at hr
     refine W_sr (WO_seg 1 [(9, .bool (decide (s1 < (List.length p1 : Int))))] kr kr ?_)
     refine WO_et rfl (W_seq ?_)
     refine W_cond (decide (s1 < (List.length p1 : Int))) kr ?_ ?_
     ·intro hc
      rw [if_pos hc] at hr
      refine W_skip ?_
      refine X_then ?_
      refine W_seq ?_
      refine W_block ?_
      refine W_sr (WO_seg 2 [(5, .int .i64 s1)] kr kr ?_)
      refine WO_et rfl (W_sr ?_)
      refine WO_seg 3 [(11, .func (.func 94) #[] #[]), (12, .slice a2 (List.length p1) c2), (13, .int .i64 s1)] kr kr ?_
      replace ⟨x1, hx2, hr⟩ := bindS hr
      refine WO_one rfl (One_index (d := 14) (t := 23) (e := 29) (x := (.tmp 12)) (y := (.tmp 13)) (cPair (cInt .i64) (cPair cStr cStr)) kr rfl (ev (.slice a2 (List.length p1) c2)) (ev (.int .i64 s1)) kr r2 hx2 ?_)
      rintro b2 f1 cs1 ⟨_, _, rfl, rfl, ⟨_, _, rfl, rfl, rfl⟩⟩ hq1
      refine WO_one rfl (One_load_row (d := 15) (t := 29) (x := (.tmp 14)) (.agg #[.int .i64 x1.1, .string x1.2.1, .string x1.2.2]) kr rfl (ev (.pointer (some ⟨b2, f1, none⟩))) st hq1 kr ?_)
      replace ⟨y2, hx3, hr⟩ := bindS hr
      refine WO_one rfl (One_fn 16 94 #[.agg #[.int .i64 x1.1, .string x1.2.1, .string x1.2.2]] kr rfl ?_)
      refine (index_divide_1_ok st hx3).mono ?_
      clear st
      rintro _ w7 ⟨m7, rfl, hle3, st⟩
      refine ⟨_, rfl, ?_⟩
      have hm := Mem.le_trans hm hle3
      have r2 := r2.mono hle3
      have hq1 := hq1.mono hle3
      have hb1 := hb1.mono hle3
      have r1 := r1.mono hle3
      refine WO_et rfl (W_cond y2 kr ?_ ?_)
      ·intro hc
       rw [if_pos hc] at hr
       refine W_sr (WO_seg 2 [(4, .int .i64 s1)] kr kr ?_)
       refine WO_et rfl (W_ret ?_)
       refine X_block_ret ?_
       refine X_then_ret ?_
       obtain rfl := Option.some.inj hr
       have ho := hBu2 _ rfl
       subst ho
       have hr := hrKu2
       dsimp only at hr
       refine X_then_ret ?_
       refine X_block_ret ?_
       refine X_then_ret ?_
       obtain rfl := Option.some.inj hr
       refine X_ret [.tmp 4] [.int .i64 s1] rfl (ResAll.cons (ResAt.tmp kr) ResAll.nil) ?_
       exact ⟨_, rfl, ⟨m7, rfl, hm, st, r2, hb1, r1⟩⟩
      ·intro hc
       rw [if_neg (not_true hc)] at hr
       refine W_skip ?_
       refine X_block ?_
       refine X_then ?_
       refine W_region ?_
       refine WO_seg 2 [(8, .int .i64 (IntKind.wrap .i64 (s1 + 1)))] kr kr ?_
       refine WO_end rfl ?_
       obtain rfl := Option.some.inj hr
       have hL := hSu2 _ rfl
       exact X_env _ kr (X_round k1 (Nat.lt_succ_self _) ⟨IntKind.wrap .i64 (s1 + 1), m7, hL, rfl, hm, st, r2, hb1, r1⟩)
     ·intro hc
      rw [if_neg (not_true hc)] at hr
      refine W_exit ?_
      refine X_then_exit ?_
      obtain rfl := Option.some.inj hr
      have ho := hBu2 _ rfl
      refine X_then_exit ?_
      exact X_env _ kr (K0_u2 _ _ ⟨(), m6, ho, rfl, hm, st, r2, hb1, r1⟩)
def index_Affected (N : Nat) (p0 : (List ((Int × ByteArray × ByteArray) × List Int)) × Int) (p1 : List (Int × ByteArray × ByteArray)) : Option (List Int × Int) :=
 (index_divide N (p0.1, p0.2) p1 true).bind fun y1 => some (y1.1, y1.2)
set_option maxHeartbeats 4000000 in
set_option maxRecDepth 100000 in
theorem index_Affected_ok {N : Nat} {m : Mem} {own : List Piece} {w : World} {p0 : (List ((Int × ByteArray × ByteArray) × List Int)) × Int} {p1 : List (Int × ByteArray × ByteArray)} {a1 : Option Addr} {c1 : Nat} {a2 : Option Addr} {c2 : Nat} {r : List Int × Int} (st : St m (own) w) (r1 : RepS (cPair (cPair (cInt .i64) (cPair cStr cStr)) (cSl (cInt .i64))) m a1 c1 p0.1) (r2 : RepS (cPair (cInt .i64) (cPair cStr cStr)) m a2 c2 p1) (hr : index_Affected N p0 p1 = some r) : Calls Tryd.prog 29 #[.agg #[.slice a1 (List.length p0.1) c1, .int .i64 p0.2], .slice a2 (List.length p1) c2] w fun e w' => ∃ (ra1 : Option Addr) (rc1 : Nat) (m' : Mem), e = .returned (.tuple #[.slice ra1 (List.length r.1) rc1, .int .i64 r.2]) ∧ m.le m' ∧ St m' (.room ra1 (List.length r.1) rc1 3 1 :: own) w' ∧ RepS (cInt .i64) m' ra1 rc1 r.1 := by
 unfold index_Affected at hr
 have hm := m.le_refl
 refine W_calls Tryd.func29 rfl Tryd.ntmps29 [(0, .agg #[.slice a1 (List.length p0.1) c1, .int .i64 p0.2]), (1, .slice a2 (List.length p1) c2)] kr rfl ?_
 refine W_sr (WO_one rfl (One_box (d := 2) (e := 64) (x := (.tmp 0)) (.agg #[.slice a1 (List.length p0.1) c1, .int .i64 p0.2]) kr rfl kr st ?_))
 clear st
 intro b1 m1 w1 hle1 st hb1
 have hm := Mem.le_trans hm hle1
 have r1 := r1.mono hle1
 have r2 := r2.mono hle1
 refine WO_seg 2 [] kr kr ?_
 refine WO_et rfl (W_sr ?_)
 refine WO_one rfl (One_load_row (d := 6) (t := 64) (x := (.tmp 2)) (.agg #[.slice a1 (List.length p0.1) c1, .int .i64 p0.2]) kr rfl (ev (.pointer (some ⟨b1, 0, none⟩))) st hb1 kr ?_)
 refine WO_seg 1 [(7, .slice a2 (List.length p1) c2)] kr kr ?_
 replace ⟨y1, hx1, hr⟩ := bindS hr
 refine WO_one rfl (One_fn 8 63 #[.agg #[.slice a1 (List.length p0.1) c1, .int .i64 p0.2], .slice a2 (List.length p1) c2, .bool true] kr rfl ?_)
 refine (index_divide_ok st r1 r2 hx1).mono ?_
 clear st
 rintro _ w2 ⟨a3, c3, m2, rfl, hle2, st, r3⟩
 refine ⟨_, rfl, ?_⟩
 have hm := Mem.le_trans hm hle2
 have r2 := r2.mono hle2
 have hb1 := hb1.mono hle2
 have r1 := r1.mono hle2
 refine WO_seg 4 [(4, .slice a3 (List.length y1.1) c3), (5, .int .i64 y1.2)] kr kr ?_
 refine WO_et rfl (W_ret ?_)
 obtain rfl := Option.some.inj hr
 refine X_ret [.tmp 4, .tmp 5] [.slice a3 (List.length y1.1) c3, .int .i64 y1.2] rfl (ResAll.cons (ResAt.tmp kr) (ResAll.cons (ResAt.tmp kr) ResAll.nil)) ?_
 exact ⟨a3, c3, m2, rfl, hm, st, r3⟩
def index_Unaffected (N : Nat) (p0 : (List ((Int × ByteArray × ByteArray) × List Int)) × Int) (p1 : List (Int × ByteArray × ByteArray)) : Option (List Int × Int) :=
 (index_divide N (p0.1, p0.2) p1 false).bind fun y1 => some (y1.1, y1.2)
set_option maxHeartbeats 4000000 in
set_option maxRecDepth 100000 in
theorem index_Unaffected_ok {N : Nat} {m : Mem} {own : List Piece} {w : World} {p0 : (List ((Int × ByteArray × ByteArray) × List Int)) × Int} {p1 : List (Int × ByteArray × ByteArray)} {a1 : Option Addr} {c1 : Nat} {a2 : Option Addr} {c2 : Nat} {r : List Int × Int} (st : St m (own) w) (r1 : RepS (cPair (cPair (cInt .i64) (cPair cStr cStr)) (cSl (cInt .i64))) m a1 c1 p0.1) (r2 : RepS (cPair (cInt .i64) (cPair cStr cStr)) m a2 c2 p1) (hr : index_Unaffected N p0 p1 = some r) : Calls Tryd.prog 30 #[.agg #[.slice a1 (List.length p0.1) c1, .int .i64 p0.2], .slice a2 (List.length p1) c2] w fun e w' => ∃ (ra1 : Option Addr) (rc1 : Nat) (m' : Mem), e = .returned (.tuple #[.slice ra1 (List.length r.1) rc1, .int .i64 r.2]) ∧ m.le m' ∧ St m' (.room ra1 (List.length r.1) rc1 3 1 :: own) w' ∧ RepS (cInt .i64) m' ra1 rc1 r.1 := by
 unfold index_Unaffected at hr
 have hm := m.le_refl
 refine W_calls Tryd.func30 rfl Tryd.ntmps30 [(0, .agg #[.slice a1 (List.length p0.1) c1, .int .i64 p0.2]), (1, .slice a2 (List.length p1) c2)] kr rfl ?_
 refine W_sr (WO_one rfl (One_box (d := 2) (e := 64) (x := (.tmp 0)) (.agg #[.slice a1 (List.length p0.1) c1, .int .i64 p0.2]) kr rfl kr st ?_))
 clear st
 intro b1 m1 w1 hle1 st hb1
 have hm := Mem.le_trans hm hle1
 have r1 := r1.mono hle1
 have r2 := r2.mono hle1
 refine WO_seg 2 [] kr kr ?_
 refine WO_et rfl (W_sr ?_)
 refine WO_one rfl (One_load_row (d := 6) (t := 64) (x := (.tmp 2)) (.agg #[.slice a1 (List.length p0.1) c1, .int .i64 p0.2]) kr rfl (ev (.pointer (some ⟨b1, 0, none⟩))) st hb1 kr ?_)
 refine WO_seg 1 [(7, .slice a2 (List.length p1) c2)] kr kr ?_
 replace ⟨y1, hx1, hr⟩ := bindS hr
 refine WO_one rfl (One_fn 8 63 #[.agg #[.slice a1 (List.length p0.1) c1, .int .i64 p0.2], .slice a2 (List.length p1) c2, .bool false] kr rfl ?_)
 refine (index_divide_ok st r1 r2 hx1).mono ?_
 clear st
 rintro _ w2 ⟨a3, c3, m2, rfl, hle2, st, r3⟩
 refine ⟨_, rfl, ?_⟩
 have hm := Mem.le_trans hm hle2
 have r2 := r2.mono hle2
 have hb1 := hb1.mono hle2
 have r1 := r1.mono hle2
 refine WO_seg 4 [(4, .slice a3 (List.length y1.1) c3), (5, .int .i64 y1.2)] kr kr ?_
 refine WO_et rfl (W_ret ?_)
 obtain rfl := Option.some.inj hr
 refine X_ret [.tmp 4, .tmp 5] [.slice a3 (List.length y1.1) c3, .int .i64 y1.2] rfl (ResAll.cons (ResAt.tmp kr) (ResAll.cons (ResAt.tmp kr) ResAll.nil)) ?_
 exact ⟨a3, c3, m2, rfl, hm, st, r3⟩
def testgatemake_SameInts_L1 (N : Nat) (p0 : List Int) (p1 : List Int) (s1 : Int) : Option ((Int) ⊕ ((Unit) ⊕ (Bool))) :=
 if (decide (s1 < (List.length p0 : Int))) = true then ((idx p0 s1).bind fun x1 => (idx p1 s1).bind fun x2 => if (x1 != x2) = true then (some (.inr (.inr (false)))) else (some (.inl (IntKind.wrap .i64 (s1 + 1))))) else (some (.inr (.inl ())))
def testgatemake_SameInts (N : Nat) (p0 : List Int) (p1 : List Int) : Option (Bool) :=
 if ((List.length p0 : Int) != (List.length p1 : Int)) = true then (some false) else ((loopM (testgatemake_SameInts_L1 N p0 p1) N 0).bind fun out1 => (match out1 with | .inl o1 => some true | .inr (z) => some z))
set_option maxHeartbeats 4000000 in
set_option maxRecDepth 100000 in
theorem testgatemake_SameInts_ok {N : Nat} {m : Mem} {own : List Piece} {w : World} {p0 : List Int} {p1 : List Int} {a1 : Option Addr} {c1 : Nat} {a2 : Option Addr} {c2 : Nat} {r : Bool} (st : St m (own) w) (r1 : RepS (cInt .i64) m a1 c1 p0) (r2 : RepS (cInt .i64) m a2 c2 p1) (hr : testgatemake_SameInts N p0 p1 = some r) : Calls Tryd.prog 61 #[.slice a1 (List.length p0) c1, .slice a2 (List.length p1) c2] w fun e w' => ∃ (m' : Mem), e = .returned (.bool r) ∧ m.le m' ∧ St m' (own) w' := by
 unfold testgatemake_SameInts at hr
 have hm := m.le_refl
 refine W_calls Tryd.func61 rfl Tryd.ntmps61 [(0, .slice a1 (List.length p0) c1), (1, .slice a2 (List.length p1) c2)] kr rfl ?_
 refine W_sr (WO_seg 1 [] kr kr ?_)
 refine WO_et rfl (W_seq ?_)
 refine W_sr (WO_seg 5 [(10, .bool ((List.length p0 : Int) != (List.length p1 : Int)))] kr kr ?_)
 refine WO_et rfl (W_cond ((List.length p0 : Int) != (List.length p1 : Int)) kr ?_ ?_)
 ·intro hc
  rw [if_pos hc] at hr
  refine W_sr (WO_seg 1 [(4, .bool false)] kr kr ?_)
  refine WO_et rfl (W_ret ?_)
  refine X_then_ret ?_
  obtain rfl := Option.some.inj hr
  refine X_ret [.tmp 4] [.bool false] rfl (ResAll.cons (ResAt.tmp kr) ResAll.nil) ?_
  exact ⟨m, rfl, hm, st⟩
 ·intro hc
  rw [if_neg (not_true hc)] at hr
  refine W_skip ?_
  refine X_then ?_
  refine W_seq ?_
  refine W_sr (WO_seg 1 [(5, .int .i64 0)] kr kr ?_)
  refine WO_et rfl (W_block ?_)
  replace ⟨out1, hr, hrKu1⟩ := bindS hr
  refine W_cut (.exit 0) (fun L' w' => ∃ (o1 : Unit) (m1 : Mem), (.inl o1) = out1 ∧ L' = [] ∧ m.le m1 ∧ St m1 (own) w') ?_ ?_
  ·clear hr st
   rintro _ w1 ⟨o1, m1, rfl, rfl, hm, st⟩
   have hr := hrKu1
   clear hrKu1
   dsimp only at hr
   refine X_block_eq ?_
   refine X_then ?_
   refine W_sr (WO_seg 1 [(4, .bool true)] kr kr ?_)
   refine WO_et rfl (W_ret ?_)
   obtain rfl := Option.some.inj hr
   refine X_ret [.tmp 4] [.bool true] rfl (ResAll.cons (ResAt.tmp kr) ResAll.nil) ?_
   exact ⟨m1, rfl, hm, st⟩
  intro K0_u1
  refine W_env _ kr (W_loop (fun k1 L' w' => ∃ (s1 : Int) (m2 : Mem), loopM (testgatemake_SameInts_L1 N p0 p1) k1 s1 = some out1 ∧ L' = [(0, .slice a1 (List.length p0) c1), (1, .slice a2 (List.length p1) c2), (5, .int .i64 s1)] ∧ m.le m2 ∧ St m2 (own) w' ∧ RepS (cInt .i64) m2 a1 c1 p0 ∧ RepS (cInt .i64) m2 a2 c2 p1) N ⟨0, m, hr, rfl, hm, st, r1, r2⟩ ?_)
  clear st hr
  rintro k1 _ w2 ⟨s1, m2, hL, rfl, hm, st, r1, r2⟩
  rcases k1 with _ | k1
  ·exact loopM_zero hL
  ·obtain ⟨qu1, hr, hSu1, hBu1⟩ := loopM_succ hL
   clear hL
   unfold testgatemake_SameInts_L1 at hr
   refine W_seq ?_
   refine W_sr (WO_seg 4 [(14, .bool (decide (s1 < (List.length p0 : Int))))] kr kr ?_)
   refine WO_et rfl (W_cond (decide (s1 < (List.length p0 : Int))) kr ?_ ?_)
   ·intro hc
    rw [if_pos hc] at hr
    refine W_skip ?_
    refine X_then ?_
    refine W_seq ?_
    refine W_block ?_
    refine W_seq ?_
    refine W_draw [(9, fun w' => Inv m2 w' ∧ True)] kr st ?_
    clear st
    intro w3 _ st
    have hmS1 := m2.le_refl
    refine ⟨⟨.inr ⟨Inv.anti st.inv hmS1, trivial⟩, trivial⟩, ?_⟩
    refine WA_pure 0 17 (.slice a1 (List.length p0) c1) kr rfl kr (.head _) (QP_then (QP_block (QP_then (QP_then (QP_block (QP_then QP_body)))))) ?_
    refine WA_pure 1 18 (.int .i64 s1) kr rfl kr (.head _) (QP_then (QP_block (QP_then (QP_then (QP_block (QP_then QP_body)))))) ?_
    replace ⟨x1, hx1, hr⟩ := bindS hr
    refine WA_index (t := 22) (e := 3) (x := (.tmp 17)) (y := (.tmp 18)) 2 19 (cInt .i64) kr rfl kr (.head _) (QP_then (QP_block (QP_then (QP_then (QP_block (QP_then QP_body)))))) (ev (.slice a1 (List.length p0) c1)) (ev (.int .i64 s1)) kr r1 hx1 ?_
    rintro b1 f1 cs1 rfl hq1
    refine WA_load_row (t := 3) (x := (.tmp 19)) 3 20 (.int .i64 x1) kr rfl kr (.head _) (QP_then (QP_block (QP_then (QP_then (QP_block (QP_then QP_body)))))) (fun _ h => h.1) (ev (.pointer (some ⟨b1, f1, none⟩))) hq1 kr ?_
    refine WA_pure 4 21 (.slice a2 (List.length p1) c2) kr rfl kr (.head _) (QP_then (QP_block (QP_then (QP_then (QP_block (QP_then QP_body)))))) ?_
    refine WA_pure 5 22 (.int .i64 s1) kr rfl kr (.head _) (QP_then (QP_block (QP_then (QP_then (QP_block (QP_then QP_body)))))) ?_
    replace ⟨x2, hx2, hr⟩ := bindS hr
    refine WA_index (t := 22) (e := 3) (x := (.tmp 21)) (y := (.tmp 22)) 6 23 (cInt .i64) kr rfl kr (.head _) (QP_then (QP_block (QP_then (QP_then (QP_block (QP_then QP_body)))))) (ev (.slice a2 (List.length p1) c2)) (ev (.int .i64 s1)) kr r2 hx2 ?_
    rintro b2 f2 cs2 rfl hq2
    refine WA_load_row (t := 3) (x := (.tmp 23)) 7 24 (.int .i64 x2) kr rfl kr (.head _) (QP_then (QP_block (QP_then (QP_then (QP_block (QP_then QP_body)))))) (fun _ h => h.1) (ev (.pointer (some ⟨b2, f2, none⟩))) hq2 kr ?_
    refine WA_pure 8 25 (.bool (x1 != x2)) kr rfl kr (.head _) (QP_then (QP_block (QP_then (QP_then (QP_block (QP_then QP_body)))))) ?_
    refine WA_done kr ?_
    refine X_then ?_
    refine W_cond (x1 != x2) kr ?_ ?_
    ·intro hc
     rw [if_pos hc] at hr
     refine W_sr (WO_seg 1 [(4, .bool false)] kr kr ?_)
     refine WO_et rfl (W_ret ?_)
     refine X_block_ret ?_
     refine X_then_ret ?_
     obtain rfl := Option.some.inj hr
     have ho := hBu1 _ rfl
     subst ho
     have hr := hrKu1
     dsimp only at hr
     refine X_then_ret ?_
     refine X_block_ret ?_
     refine X_then_ret ?_
     obtain rfl := Option.some.inj hr
     refine X_ret [.tmp 4] [.bool false] rfl (ResAll.cons (ResAt.tmp kr) ResAll.nil) ?_
     exact ⟨m2, rfl, hm, st⟩
    ·intro hc
     rw [if_neg (not_true hc)] at hr
     refine W_skip ?_
     refine X_block ?_
     refine X_then ?_
     refine W_region ?_
     refine WO_seg 3 [(5, .int .i64 (IntKind.wrap .i64 (s1 + 1)))] kr kr ?_
     refine WO_end rfl ?_
     obtain rfl := Option.some.inj hr
     have hL := hSu1 _ rfl
     exact X_env _ kr (X_round k1 (Nat.lt_succ_self _) ⟨IntKind.wrap .i64 (s1 + 1), m2, hL, rfl, hm, st, r1, r2⟩)
   ·intro hc
    rw [if_neg (not_true hc)] at hr
    refine W_exit ?_
    refine X_then_exit ?_
    obtain rfl := Option.some.inj hr
    have ho := hBu1 _ rfl
    refine X_then_exit ?_
    exact X_env _ kr (K0_u1 _ _ ⟨(), m2, ho, rfl, hm, st⟩)
def testgatelaw18_awake (N : Nat) : Option (Bool) :=
 (index_Build N ([(((⟨#[]⟩ : ByteArray), (⟨#[]⟩ : ByteArray)), 0, 0, 0, (0, 0, 0), false, [((4, (⟨#[99]⟩ : ByteArray), (⟨#[]⟩ : ByteArray)), 0)]), (((⟨#[]⟩ : ByteArray), (⟨#[]⟩ : ByteArray)), 0, 0, 0, (0, 0, 0), false, ([] : List ((Int × ByteArray × ByteArray) × Int))), (((⟨#[]⟩ : ByteArray), (⟨#[]⟩ : ByteArray)), 0, 0, 0, (0, 0, 0), false, [((4, (⟨#[99]⟩ : ByteArray), (⟨#[]⟩ : ByteArray)), 0)])])).bind fun y1 => (index_Add N (y1.1.1, y1.1.2) (((⟨#[]⟩ : ByteArray), (⟨#[]⟩ : ByteArray)), 0, 0, 0, (0, 0, 0), false, [((4, (⟨#[99]⟩ : ByteArray), (⟨#[]⟩ : ByteArray)), 0)])).bind fun y2 => (index_Affected N (y2.1.1, y2.1.2) ([(4, (⟨#[99]⟩ : ByteArray), (⟨#[]⟩ : ByteArray))])).bind fun y3 => (index_Unaffected N (y2.1.1, y2.1.2) ([(4, (⟨#[99]⟩ : ByteArray), (⟨#[]⟩ : ByteArray))])).bind fun y4 => (if (y1.2 == 0) = true then (if (y2.2 == 0) = true then (if (y3.2 == 0) = true then (if (y4.2 == 0) = true then ((index_Check N (y1.1.1, y1.1.2)).bind fun y5 => if y5 = true then ((index_Find N (y1.1.1, y1.1.2) (4, (⟨#[99]⟩ : ByteArray), (⟨#[]⟩ : ByteArray))).bind fun y6 => (testgatemake_SameInts N y6 ([0, 2])).bind fun y7 => if y7 = true then ((testgatemake_SameInts N y3.1 ([0, 2, 3])).bind fun y8 => if y8 = true then ((testgatemake_SameInts N y4.1 ([1])).bind fun y9 => some y9) else (some false)) else (some false)) else (some false)) else (some false)) else (some false)) else (some false)) else (some false) : Option (Bool)).bind fun o1 => some o1
set_option maxHeartbeats 4000000 in
set_option maxRecDepth 100000 in
theorem testgatelaw18_awake_ok {N : Nat} {m : Mem} {own : List Piece} {w : World} {r : Bool} (st : St m (own) w) (hr : testgatelaw18_awake N = some r) : Calls Tryd.prog 27 #[] w fun e w' => ∃ (m' : Mem), e = .returned (.bool r) ∧ m.le m' ∧ St m' (own) w' := by
 unfold testgatelaw18_awake at hr
 have hm := m.le_refl
 refine W_calls Tryd.func27 rfl Tryd.ntmps27 [] kr rfl ?_
 refine W_sr (WO_seg 1 [] kr kr ?_)
 refine WO_et rfl (W_sr ?_)
 refine WO_seg 1 [(11, .agg #[.int .i64 4, .string (⟨#[99]⟩ : ByteArray), .string (⟨#[]⟩ : ByteArray)])] kr kr ?_
 refine WO_one rfl (One_alloc (d := 1) (e := 29) (.agg #[.int .i64 0, .string (⟨#[]⟩ : ByteArray), .string (⟨#[]⟩ : ByteArray)]) kr rfl kr st ?_)
 clear st
 intro b1 w1 st
 refine WO_one rfl (One_store (t := 29) (x := (.tmp 1)) (y := (.tmp 11)) (v := .agg #[.int .i64 4, .string (⟨#[99]⟩ : ByteArray), .string (⟨#[]⟩ : ByteArray)]) (c' := #[.int .i64 4, .string (⟨#[99]⟩ : ByteArray), .string (⟨#[]⟩ : ByteArray)]) kr (ev (.pointer (some ⟨b1, 0, none⟩))) (ev (.agg #[.int .i64 4, .string (⟨#[99]⟩ : ByteArray), .string (⟨#[]⟩ : ByteArray)])) st kr kr ?_)
 clear st
 intro w2 st
 refine WO_et rfl (W_sr ?_)
 refine WO_one rfl (One_load_own (d := 12) (t := 29) (x := (.tmp 1)) (.agg #[.int .i64 4, .string (⟨#[99]⟩ : ByteArray), .string (⟨#[]⟩ : ByteArray)]) kr rfl (ev (.pointer (some ⟨b1, 0, none⟩))) st.head kr ?_)
 refine WO_seg 1 [(13, .agg #[.int .i64 4, .string (⟨#[99]⟩ : ByteArray), .string (⟨#[]⟩ : ByteArray), .int .i64 0])] kr kr ?_
 refine WO_one rfl (One_buildSlice (d := 14) (t := 71) (e := 102) (len := 1) (parts := #[(0, (.tmp 13))]) (cPair (cPair (cInt .i64) (cPair cStr cStr)) (cInt .i64)) (xs := [((4, (⟨#[99]⟩ : ByteArray), (⟨#[]⟩ : ByteArray)), 0)]) [.int .i64 4, .string (⟨#[99]⟩ : ByteArray), .string (⟨#[]⟩ : ByteArray), .int .i64 0] kr rfl (fun _ => buildCells_run kr _) rfl rfl st ⟨[.int .i64 4, .string (⟨#[99]⟩ : ByteArray), .string (⟨#[]⟩ : ByteArray), .int .i64 0], _, rfl, ⟨_, _, rfl, ⟨_, _, rfl, rfl, ⟨_, _, rfl, rfl, rfl⟩⟩, rfl⟩, rfl⟩ ?_)
 clear st
 intro b2 m1 w3 hle1 st r1
 have hm := Mem.le_trans hm hle1
 refine WO_seg 1 [(15, .agg #[.string (⟨#[]⟩ : ByteArray), .string (⟨#[]⟩ : ByteArray), .int .i64 0, .int .i64 0, .int .i64 0, .int .i64 0, .int .i64 0, .int .i64 0, .bool false, .slice (some ⟨b2, 0, none⟩) (List.length ([((4, (⟨#[99]⟩ : ByteArray), (⟨#[]⟩ : ByteArray)), 0)])) 1])] kr kr ?_
 refine WO_one rfl (One_alloc (d := 2) (e := 73) (.agg #[.string (⟨#[]⟩ : ByteArray), .string (⟨#[]⟩ : ByteArray), .int .i64 0, .int .i64 0, .int .i64 0, .int .i64 0, .int .i64 0, .int .i64 0, .bool false, .slice none 0 0]) kr rfl kr st ?_)
 clear st
 intro b3 w4 st
 refine WO_one rfl (One_store (t := 73) (x := (.tmp 2)) (y := (.tmp 15)) (v := .agg #[.string (⟨#[]⟩ : ByteArray), .string (⟨#[]⟩ : ByteArray), .int .i64 0, .int .i64 0, .int .i64 0, .int .i64 0, .int .i64 0, .int .i64 0, .bool false, .slice (some ⟨b2, 0, none⟩) (List.length ([((4, (⟨#[99]⟩ : ByteArray), (⟨#[]⟩ : ByteArray)), 0)])) 1]) (c' := #[.string (⟨#[]⟩ : ByteArray), .string (⟨#[]⟩ : ByteArray), .int .i64 0, .int .i64 0, .int .i64 0, .int .i64 0, .int .i64 0, .int .i64 0, .bool false, .slice (some ⟨b2, 0, none⟩) (List.length ([((4, (⟨#[99]⟩ : ByteArray), (⟨#[]⟩ : ByteArray)), 0)])) 1]) kr (ev (.pointer (some ⟨b3, 0, none⟩))) (ev (.agg #[.string (⟨#[]⟩ : ByteArray), .string (⟨#[]⟩ : ByteArray), .int .i64 0, .int .i64 0, .int .i64 0, .int .i64 0, .int .i64 0, .int .i64 0, .bool false, .slice (some ⟨b2, 0, none⟩) (List.length ([((4, (⟨#[99]⟩ : ByteArray), (⟨#[]⟩ : ByteArray)), 0)])) 1])) st kr kr ?_)
 clear st
 intro w5 st
 refine WO_et rfl (W_sr ?_)
 refine WO_one rfl (One_load_own (d := 17) (t := 73) (x := (.tmp 2)) (.agg #[.string (⟨#[]⟩ : ByteArray), .string (⟨#[]⟩ : ByteArray), .int .i64 0, .int .i64 0, .int .i64 0, .int .i64 0, .int .i64 0, .int .i64 0, .bool false, .slice (some ⟨b2, 0, none⟩) (List.length ([((4, (⟨#[99]⟩ : ByteArray), (⟨#[]⟩ : ByteArray)), 0)])) 1]) kr rfl (ev (.pointer (some ⟨b3, 0, none⟩))) st.head kr ?_)
 refine WO_seg 1 [(18, .agg #[.string (⟨#[]⟩ : ByteArray), .string (⟨#[]⟩ : ByteArray), .int .i64 0, .int .i64 0, .int .i64 0, .int .i64 0, .int .i64 0, .int .i64 0, .bool false, .slice none (List.length ([] : List ((Int × ByteArray × ByteArray) × Int))) 0])] kr kr ?_
 refine WO_one rfl (One_load_own (d := 19) (t := 73) (x := (.tmp 2)) (.agg #[.string (⟨#[]⟩ : ByteArray), .string (⟨#[]⟩ : ByteArray), .int .i64 0, .int .i64 0, .int .i64 0, .int .i64 0, .int .i64 0, .int .i64 0, .bool false, .slice (some ⟨b2, 0, none⟩) (List.length ([((4, (⟨#[99]⟩ : ByteArray), (⟨#[]⟩ : ByteArray)), 0)])) 1]) kr rfl (ev (.pointer (some ⟨b3, 0, none⟩))) st.head kr ?_)
 refine WO_one rfl (One_buildSlice (d := 20) (t := 60) (e := 73) (len := 3) (parts := #[(0, (.tmp 17)), (1, (.tmp 18)), (2, (.tmp 19))]) (cPair (cPair cStr cStr) (cPair (cInt .i64) (cPair (cInt .i64) (cPair (cInt .i64) (cPair (cPair (cInt .i64) (cPair (cInt .i64) (cInt .i64))) (cPair cBool (cSl (cPair (cPair (cInt .i64) (cPair cStr cStr)) (cInt .i64))))))))) (xs := [(((⟨#[]⟩ : ByteArray), (⟨#[]⟩ : ByteArray)), 0, 0, 0, (0, 0, 0), false, [((4, (⟨#[99]⟩ : ByteArray), (⟨#[]⟩ : ByteArray)), 0)]), (((⟨#[]⟩ : ByteArray), (⟨#[]⟩ : ByteArray)), 0, 0, 0, (0, 0, 0), false, ([] : List ((Int × ByteArray × ByteArray) × Int))), (((⟨#[]⟩ : ByteArray), (⟨#[]⟩ : ByteArray)), 0, 0, 0, (0, 0, 0), false, [((4, (⟨#[99]⟩ : ByteArray), (⟨#[]⟩ : ByteArray)), 0)])]) [.string (⟨#[]⟩ : ByteArray), .string (⟨#[]⟩ : ByteArray), .int .i64 0, .int .i64 0, .int .i64 0, .int .i64 0, .int .i64 0, .int .i64 0, .bool false, .slice (some ⟨b2, 0, none⟩) (List.length ([((4, (⟨#[99]⟩ : ByteArray), (⟨#[]⟩ : ByteArray)), 0)])) 1, .string (⟨#[]⟩ : ByteArray), .string (⟨#[]⟩ : ByteArray), .int .i64 0, .int .i64 0, .int .i64 0, .int .i64 0, .int .i64 0, .int .i64 0, .bool false, .slice none (List.length ([] : List ((Int × ByteArray × ByteArray) × Int))) 0, .string (⟨#[]⟩ : ByteArray), .string (⟨#[]⟩ : ByteArray), .int .i64 0, .int .i64 0, .int .i64 0, .int .i64 0, .int .i64 0, .int .i64 0, .bool false, .slice (some ⟨b2, 0, none⟩) (List.length ([((4, (⟨#[99]⟩ : ByteArray), (⟨#[]⟩ : ByteArray)), 0)])) 1] kr rfl (fun _ => buildCells_run kr _) rfl rfl st ⟨[.string (⟨#[]⟩ : ByteArray), .string (⟨#[]⟩ : ByteArray), .int .i64 0, .int .i64 0, .int .i64 0, .int .i64 0, .int .i64 0, .int .i64 0, .bool false, .slice (some ⟨b2, 0, none⟩) (List.length ([((4, (⟨#[99]⟩ : ByteArray), (⟨#[]⟩ : ByteArray)), 0)])) 1], _, rfl, ⟨_, _, rfl, ⟨_, _, rfl, rfl, rfl⟩, ⟨_, _, rfl, rfl, ⟨_, _, rfl, rfl, ⟨_, _, rfl, rfl, ⟨_, _, rfl, ⟨_, _, rfl, rfl, ⟨_, _, rfl, rfl, rfl⟩⟩, ⟨_, _, rfl, rfl, (cSl_mk r1)⟩⟩⟩⟩⟩⟩, ⟨[.string (⟨#[]⟩ : ByteArray), .string (⟨#[]⟩ : ByteArray), .int .i64 0, .int .i64 0, .int .i64 0, .int .i64 0, .int .i64 0, .int .i64 0, .bool false, .slice none (List.length ([] : List ((Int × ByteArray × ByteArray) × Int))) 0], _, rfl, ⟨_, _, rfl, ⟨_, _, rfl, rfl, rfl⟩, ⟨_, _, rfl, rfl, ⟨_, _, rfl, rfl, ⟨_, _, rfl, rfl, ⟨_, _, rfl, ⟨_, _, rfl, rfl, ⟨_, _, rfl, rfl, rfl⟩⟩, ⟨_, _, rfl, rfl, (cSl_mk (RepS.nil _ _))⟩⟩⟩⟩⟩⟩, ⟨[.string (⟨#[]⟩ : ByteArray), .string (⟨#[]⟩ : ByteArray), .int .i64 0, .int .i64 0, .int .i64 0, .int .i64 0, .int .i64 0, .int .i64 0, .bool false, .slice (some ⟨b2, 0, none⟩) (List.length ([((4, (⟨#[99]⟩ : ByteArray), (⟨#[]⟩ : ByteArray)), 0)])) 1], _, rfl, ⟨_, _, rfl, ⟨_, _, rfl, rfl, rfl⟩, ⟨_, _, rfl, rfl, ⟨_, _, rfl, rfl, ⟨_, _, rfl, rfl, ⟨_, _, rfl, ⟨_, _, rfl, rfl, ⟨_, _, rfl, rfl, rfl⟩⟩, ⟨_, _, rfl, rfl, (cSl_mk r1)⟩⟩⟩⟩⟩⟩, rfl⟩⟩⟩ ?_)
 clear st
 intro b4 m2 w6 hle2 st r2
 have hm := Mem.le_trans hm hle2
 have r1 := r1.mono hle2
 replace ⟨y1, hx1, hr⟩ := bindS hr
 refine WO_one rfl (One_fn 21 26 #[.slice (some ⟨b4, 0, none⟩) (List.length ([(((⟨#[]⟩ : ByteArray), (⟨#[]⟩ : ByteArray)), 0, 0, 0, (0, 0, 0), false, [((4, (⟨#[99]⟩ : ByteArray), (⟨#[]⟩ : ByteArray)), 0)]), (((⟨#[]⟩ : ByteArray), (⟨#[]⟩ : ByteArray)), 0, 0, 0, (0, 0, 0), false, ([] : List ((Int × ByteArray × ByteArray) × Int))), (((⟨#[]⟩ : ByteArray), (⟨#[]⟩ : ByteArray)), 0, 0, 0, (0, 0, 0), false, [((4, (⟨#[99]⟩ : ByteArray), (⟨#[]⟩ : ByteArray)), 0)])])) 3] kr rfl ?_)
 refine (index_Build_ok st r2 hx1).mono ?_
 clear st
 rintro _ w7 ⟨a1, c1, m3, rfl, hle3, st, r3⟩
 refine ⟨_, rfl, ?_⟩
 have hm := Mem.le_trans hm hle3
 have r1 := r1.mono hle3
 have r2 := r2.mono hle3
 refine WO_seg 3 [(22, .agg #[.slice a1 (List.length y1.1.1) c1, .int .i64 y1.1.2]), (23, .int .i64 y1.2)] kr kr ?_
 refine WO_one rfl (One_alloc (d := 3) (e := 64) (.agg #[.slice none 0 0, .int .i64 0]) kr rfl kr st ?_)
 clear st
 intro b5 w8 st
 refine WO_one rfl (One_store (t := 64) (x := (.tmp 3)) (y := (.tmp 22)) (v := .agg #[.slice a1 (List.length y1.1.1) c1, .int .i64 y1.1.2]) (c' := #[.slice a1 (List.length y1.1.1) c1, .int .i64 y1.1.2]) kr (ev (.pointer (some ⟨b5, 0, none⟩))) (ev (.agg #[.slice a1 (List.length y1.1.1) c1, .int .i64 y1.1.2])) st kr kr ?_)
 clear st
 intro w9 st
 refine WO_seg 1 [(4, .int .i64 y1.2)] kr kr ?_
 refine WO_end rfl ?_
 have st := st.front2
 have st := st.tail
 refine X_then ?_
 refine W_sr (WO_one rfl (One_load_own (d := 25) (t := 64) (x := (.tmp 3)) (.agg #[.slice a1 (List.length y1.1.1) c1, .int .i64 y1.1.2]) kr rfl (ev (.pointer (some ⟨b5, 0, none⟩))) st.head kr ?_))
 refine WO_one rfl (One_load_own (d := 26) (t := 73) (x := (.tmp 2)) (.agg #[.string (⟨#[]⟩ : ByteArray), .string (⟨#[]⟩ : ByteArray), .int .i64 0, .int .i64 0, .int .i64 0, .int .i64 0, .int .i64 0, .int .i64 0, .bool false, .slice (some ⟨b2, 0, none⟩) (List.length ([((4, (⟨#[99]⟩ : ByteArray), (⟨#[]⟩ : ByteArray)), 0)])) 1]) kr rfl (ev (.pointer (some ⟨b3, 0, none⟩))) st.tail.tail.head kr ?_)
 replace ⟨y2, hx2, hr⟩ := bindS hr
 refine WO_one rfl (One_fn 27 28 #[.agg #[.slice a1 (List.length y1.1.1) c1, .int .i64 y1.1.2], .agg #[.string (⟨#[]⟩ : ByteArray), .string (⟨#[]⟩ : ByteArray), .int .i64 0, .int .i64 0, .int .i64 0, .int .i64 0, .int .i64 0, .int .i64 0, .bool false, .slice (some ⟨b2, 0, none⟩) (List.length ([((4, (⟨#[99]⟩ : ByteArray), (⟨#[]⟩ : ByteArray)), 0)])) 1]] kr rfl ?_)
 refine (index_Add_ok st r3 r1 hx2).mono ?_
 clear st
 rintro _ w10 ⟨a2, c2, m4, rfl, hle4, st, r4⟩
 refine ⟨_, rfl, ?_⟩
 have hm := Mem.le_trans hm hle4
 have r3 := r3.mono hle4
 have r1 := r1.mono hle4
 refine WO_seg 3 [(28, .agg #[.slice a2 (List.length y2.1.1) c2, .int .i64 y2.1.2]), (29, .int .i64 y2.2)] kr kr ?_
 refine WO_one rfl (One_alloc (d := 5) (e := 64) (.agg #[.slice none 0 0, .int .i64 0]) kr rfl kr st ?_)
 clear st
 intro b6 w11 st
 refine WO_one rfl (One_store (t := 64) (x := (.tmp 5)) (y := (.tmp 28)) (v := .agg #[.slice a2 (List.length y2.1.1) c2, .int .i64 y2.1.2]) (c' := #[.slice a2 (List.length y2.1.1) c2, .int .i64 y2.1.2]) kr (ev (.pointer (some ⟨b6, 0, none⟩))) (ev (.agg #[.slice a2 (List.length y2.1.1) c2, .int .i64 y2.1.2])) st kr kr ?_)
 clear st
 intro w12 st
 refine WO_seg 1 [(6, .int .i64 y2.2)] kr kr ?_
 refine WO_et rfl (W_sr ?_)
 refine WO_one rfl (One_load_own (d := 31) (t := 64) (x := (.tmp 5)) (.agg #[.slice a2 (List.length y2.1.1) c2, .int .i64 y2.1.2]) kr rfl (ev (.pointer (some ⟨b6, 0, none⟩))) st.head kr ?_)
 refine WO_one rfl (One_load_own (d := 32) (t := 29) (x := (.tmp 1)) (.agg #[.int .i64 4, .string (⟨#[99]⟩ : ByteArray), .string (⟨#[]⟩ : ByteArray)]) kr rfl (ev (.pointer (some ⟨b1, 0, none⟩))) st.tail.tail.tail.tail.tail.tail.head kr ?_)
 refine WO_one rfl (One_buildSlice (d := 33) (t := 23) (e := 29) (len := 1) (parts := #[(0, (.tmp 32))]) (cPair (cInt .i64) (cPair cStr cStr)) (xs := [(4, (⟨#[99]⟩ : ByteArray), (⟨#[]⟩ : ByteArray))]) [.int .i64 4, .string (⟨#[99]⟩ : ByteArray), .string (⟨#[]⟩ : ByteArray)] kr rfl (fun _ => buildCells_run kr _) rfl rfl st ⟨[.int .i64 4, .string (⟨#[99]⟩ : ByteArray), .string (⟨#[]⟩ : ByteArray)], _, rfl, ⟨_, _, rfl, rfl, ⟨_, _, rfl, rfl, rfl⟩⟩, rfl⟩ ?_)
 clear st
 intro b7 m5 w13 hle5 st r5
 have hm := Mem.le_trans hm hle5
 have r4 := r4.mono hle5
 have r3 := r3.mono hle5
 have r1 := r1.mono hle5
 replace ⟨y3, hx3, hr⟩ := bindS hr
 refine WO_one rfl (One_fn 34 29 #[.agg #[.slice a2 (List.length y2.1.1) c2, .int .i64 y2.1.2], .slice (some ⟨b7, 0, none⟩) (List.length ([(4, (⟨#[99]⟩ : ByteArray), (⟨#[]⟩ : ByteArray))])) 1] kr rfl ?_)
 refine (index_Affected_ok st r4 r5 hx3).mono ?_
 clear st
 rintro _ w14 ⟨a3, c3, m6, rfl, hle6, st, r6⟩
 refine ⟨_, rfl, ?_⟩
 have hm := Mem.le_trans hm hle6
 have r4 := r4.mono hle6
 have r5 := r5.mono hle6
 have r3 := r3.mono hle6
 have r1 := r1.mono hle6
 refine WO_seg 5 [(7, .slice a3 (List.length y3.1) c3), (8, .int .i64 y3.2)] kr kr ?_
 refine WO_end rfl ?_
 have st := st.front1
 have st := st.tail
 refine X_then ?_
 refine W_sr (WO_one rfl (One_load_own (d := 38) (t := 64) (x := (.tmp 5)) (.agg #[.slice a2 (List.length y2.1.1) c2, .int .i64 y2.1.2]) kr rfl (ev (.pointer (some ⟨b6, 0, none⟩))) st.tail.head kr ?_))
 refine WO_one rfl (One_load_own (d := 39) (t := 29) (x := (.tmp 1)) (.agg #[.int .i64 4, .string (⟨#[99]⟩ : ByteArray), .string (⟨#[]⟩ : ByteArray)]) kr rfl (ev (.pointer (some ⟨b1, 0, none⟩))) st.tail.tail.tail.tail.tail.tail.tail.head kr ?_)
 refine WO_one rfl (One_buildSlice (d := 40) (t := 23) (e := 29) (len := 1) (parts := #[(0, (.tmp 39))]) (cPair (cInt .i64) (cPair cStr cStr)) (xs := [(4, (⟨#[99]⟩ : ByteArray), (⟨#[]⟩ : ByteArray))]) [.int .i64 4, .string (⟨#[99]⟩ : ByteArray), .string (⟨#[]⟩ : ByteArray)] kr rfl (fun _ => buildCells_run kr _) rfl rfl st ⟨[.int .i64 4, .string (⟨#[99]⟩ : ByteArray), .string (⟨#[]⟩ : ByteArray)], _, rfl, ⟨_, _, rfl, rfl, ⟨_, _, rfl, rfl, rfl⟩⟩, rfl⟩ ?_)
 clear st
 intro b8 m7 w15 hle7 st r7
 have hm := Mem.le_trans hm hle7
 have r6 := r6.mono hle7
 have r4 := r4.mono hle7
 have r3 := r3.mono hle7
 have r1 := r1.mono hle7
 replace ⟨y4, hx4, hr⟩ := bindS hr
 refine WO_one rfl (One_fn 41 30 #[.agg #[.slice a2 (List.length y2.1.1) c2, .int .i64 y2.1.2], .slice (some ⟨b8, 0, none⟩) (List.length ([(4, (⟨#[99]⟩ : ByteArray), (⟨#[]⟩ : ByteArray))])) 1] kr rfl ?_)
 refine (index_Unaffected_ok st r4 r7 hx4).mono ?_
 clear st
 rintro _ w16 ⟨a4, c4, m8, rfl, hle8, st, r8⟩
 refine ⟨_, rfl, ?_⟩
 have hm := Mem.le_trans hm hle8
 have r6 := r6.mono hle8
 have r4 := r4.mono hle8
 have r7 := r7.mono hle8
 have r3 := r3.mono hle8
 have r1 := r1.mono hle8
 refine WO_seg 5 [(9, .slice a4 (List.length y4.1) c4), (10, .int .i64 y4.2)] kr kr ?_
 refine WO_end rfl ?_
 have st := st.front1
 have st := st.tail
 refine X_then ?_
 refine W_sr ?_
 replace ⟨o1, hr, hrK⟩ := bindS hr
 refine WO_cut (j := 36) (fun L' w' => ∃ (m9 : Mem), L' = [(0, .bool o1)] ∧ m.le m9 ∧ St m9 (.blk b6 (.cells #[.slice a2 (List.length y2.1.1) c2, .int .i64 y2.1.2] 64 (0, 0)) :: .blk b5 (.cells #[.slice a1 (List.length y1.1.1) c1, .int .i64 y1.1.2] 64 (0, 0)) :: .blk b3 (.cells #[.string (⟨#[]⟩ : ByteArray), .string (⟨#[]⟩ : ByteArray), .int .i64 0, .int .i64 0, .int .i64 0, .int .i64 0, .int .i64 0, .int .i64 0, .bool false, .slice (some ⟨b2, 0, none⟩) (List.length ([((4, (⟨#[99]⟩ : ByteArray), (⟨#[]⟩ : ByteArray)), 0)])) 1] 73 (0, 0)) :: .blk b1 (.cells #[.int .i64 4, .string (⟨#[99]⟩ : ByteArray), .string (⟨#[]⟩ : ByteArray)] 29 (0, 0)) :: .room a4 (List.length y4.1) c4 3 1 :: .room a3 (List.length y3.1) c3 3 1 :: .room a2 (List.length y2.1.1) c2 111 4 :: .room a1 (List.length y1.1.1) c1 111 4 :: .room (some ⟨b2, 0, none⟩) (List.length ([((4, (⟨#[99]⟩ : ByteArray), (⟨#[]⟩ : ByteArray)), 0)])) 1 102 4 :: own) w' ∧ RepS (cPair (cPair (cInt .i64) (cPair cStr cStr)) (cSl (cInt .i64))) m9 a2 c2 y2.1.1 ∧ RepS (cPair (cPair (cInt .i64) (cPair cStr cStr)) (cSl (cInt .i64))) m9 a1 c1 y1.1.1 ∧ RepS (cPair (cPair (cInt .i64) (cPair cStr cStr)) (cInt .i64)) m9 (some ⟨b2, 0, none⟩) 1 ([((4, (⟨#[99]⟩ : ByteArray), (⟨#[]⟩ : ByteArray)), 0)])) ?_ ?_
 ·clear hr st
  have hr := hrK
  clear hrK
  rintro _ w17 ⟨m9, rfl, hm, st, r4, r3, r1⟩
  refine WO_et rfl (W_ret ?_)
  obtain rfl := Option.some.inj hr
  refine X_ret [.tmp 0] [.bool o1] rfl (ResAll.cons (ResAt.tmp kr) ResAll.nil) ?_
  have st := st.tail
  have st := st.tail
  have st := st.tail
  have st := st.tail
  have st := st.tail
  have st := st.tail
  have st := st.tail
  have st := st.tail
  have st := st.tail
  exact ⟨m9, rfl, hm, st⟩
 ·intro K
  clear hrK
  refine WO_seg 3 [(46, .bool (y1.2 == 0))] kr kr ?_
  rcases bcases (y1.2 == 0) with hc | hc
  ·rw [if_pos hc] at hr
   refine WO_fact (t := 46) (b := true) (y1.2 == 0) kr hc ?_
   refine WO_seg 4 [(50, .bool (y2.2 == 0))] kr kr ?_
   rcases bcases (y2.2 == 0) with hc | hc
   ·rw [if_pos hc] at hr
    refine WO_fact (t := 50) (b := true) (y2.2 == 0) kr hc ?_
    refine WO_seg 4 [(54, .bool (y3.2 == 0))] kr kr ?_
    rcases bcases (y3.2 == 0) with hc | hc
    ·rw [if_pos hc] at hr
     refine WO_fact (t := 54) (b := true) (y3.2 == 0) kr hc ?_
     refine WO_seg 4 [(58, .bool (y4.2 == 0))] kr kr ?_
     rcases bcases (y4.2 == 0) with hc | hc
     ·rw [if_pos hc] at hr
      refine WO_fact (t := 58) (b := true) (y4.2 == 0) kr hc ?_
      refine WO_one rfl (One_load_own (d := 59) (t := 64) (x := (.tmp 3)) (.agg #[.slice a1 (List.length y1.1.1) c1, .int .i64 y1.1.2]) kr rfl (ev (.pointer (some ⟨b5, 0, none⟩))) st.tail.tail.tail.tail.head kr ?_)
      replace ⟨y5, hx5, hr⟩ := bindS hr
      refine WO_one rfl (One_fn 60 60 #[.agg #[.slice a1 (List.length y1.1.1) c1, .int .i64 y1.1.2]] kr rfl ?_)
      refine (index_Check_ok st r3 hx5).mono ?_
      clear st
      rintro _ w18 ⟨m10, rfl, hle9, st⟩
      refine ⟨_, rfl, ?_⟩
      have hm := Mem.le_trans hm hle9
      have r6 := r6.mono hle9
      have r8 := r8.mono hle9
      have r3 := r3.mono hle9
      have r4 := r4.mono hle9
      have r1 := r1.mono hle9
      refine WO_seg 2 [(62, .bool y5)] kr kr ?_
      rcases bcases y5 with hc | hc
      ·rw [if_pos hc] at hr
       refine WO_fact (t := 62) (b := true) y5 kr hc ?_
       refine WO_one rfl (One_load_own (d := 63) (t := 64) (x := (.tmp 3)) (.agg #[.slice a1 (List.length y1.1.1) c1, .int .i64 y1.1.2]) kr rfl (ev (.pointer (some ⟨b5, 0, none⟩))) st.tail.tail.tail.tail.head kr ?_)
       refine WO_one rfl (One_load_own (d := 64) (t := 29) (x := (.tmp 1)) (.agg #[.int .i64 4, .string (⟨#[99]⟩ : ByteArray), .string (⟨#[]⟩ : ByteArray)]) kr rfl (ev (.pointer (some ⟨b1, 0, none⟩))) st.tail.tail.tail.tail.tail.tail.tail.tail.head kr ?_)
       replace ⟨y6, hx6, hr⟩ := bindS hr
       refine WO_one rfl (One_fn 65 62 #[.agg #[.slice a1 (List.length y1.1.1) c1, .int .i64 y1.1.2], .agg #[.int .i64 4, .string (⟨#[99]⟩ : ByteArray), .string (⟨#[]⟩ : ByteArray)]] kr rfl ?_)
       refine (index_Find_ok st r3 hx6).mono ?_
       clear st
       rintro _ w19 ⟨a5, c5, m11, rfl, hle10, st, r9⟩
       refine ⟨_, rfl, ?_⟩
       have hm := Mem.le_trans hm hle10
       have r6 := r6.mono hle10
       have r8 := r8.mono hle10
       have r3 := r3.mono hle10
       have r4 := r4.mono hle10
       have r1 := r1.mono hle10
       refine WO_one rfl (One_buildSlice (d := 66) (t := 22) (e := 3) (len := 2) (parts := #[(0, (.const (.int .i64 0))), (1, (.const (.int .i64 2)))]) (cInt .i64) (xs := [0, 2]) [.int .i64 0, .int .i64 2] kr rfl (fun _ => buildCells_run kr _) rfl rfl st ⟨[.int .i64 0], _, rfl, rfl, ⟨[.int .i64 2], _, rfl, rfl, rfl⟩⟩ ?_)
       clear st
       intro b9 m12 w20 hle11 st r10
       have hm := Mem.le_trans hm hle11
       have r6 := r6.mono hle11
       have r8 := r8.mono hle11
       have r3 := r3.mono hle11
       have r9 := r9.mono hle11
       have r4 := r4.mono hle11
       have r1 := r1.mono hle11
       replace ⟨y7, hx7, hr⟩ := bindS hr
       refine WO_one rfl (One_fn 67 61 #[.slice a5 (List.length y6) c5, .slice (some ⟨b9, 0, none⟩) (List.length ([0, 2])) 2] kr rfl ?_)
       refine (testgatemake_SameInts_ok st r9 r10 hx7).mono ?_
       clear st
       rintro _ w21 ⟨m13, rfl, hle12, st⟩
       refine ⟨_, rfl, ?_⟩
       have hm := Mem.le_trans hm hle12
       have r6 := r6.mono hle12
       have r8 := r8.mono hle12
       have r3 := r3.mono hle12
       have r9 := r9.mono hle12
       have r10 := r10.mono hle12
       have r4 := r4.mono hle12
       have r1 := r1.mono hle12
       refine WO_seg 2 [(69, .bool y7)] kr kr ?_
       rcases bcases y7 with hc | hc
       ·rw [if_pos hc] at hr
        refine WO_fact (t := 69) (b := true) y7 kr hc ?_
        refine WO_seg 1 [(70, .slice a3 (List.length y3.1) c3)] kr kr ?_
        refine WO_one rfl (One_buildSlice (d := 71) (t := 22) (e := 3) (len := 3) (parts := #[(0, (.const (.int .i64 0))), (1, (.const (.int .i64 2))), (2, (.const (.int .i64 3)))]) (cInt .i64) (xs := [0, 2, 3]) [.int .i64 0, .int .i64 2, .int .i64 3] kr rfl (fun _ => buildCells_run kr _) rfl rfl st ⟨[.int .i64 0], _, rfl, rfl, ⟨[.int .i64 2], _, rfl, rfl, ⟨[.int .i64 3], _, rfl, rfl, rfl⟩⟩⟩ ?_)
        clear st
        intro b10 m14 w22 hle13 st r11
        have hm := Mem.le_trans hm hle13
        have r6 := r6.mono hle13
        have r8 := r8.mono hle13
        have r3 := r3.mono hle13
        have r9 := r9.mono hle13
        have r10 := r10.mono hle13
        have r4 := r4.mono hle13
        have r1 := r1.mono hle13
        replace ⟨y8, hx8, hr⟩ := bindS hr
        refine WO_one rfl (One_fn 72 61 #[.slice a3 (List.length y3.1) c3, .slice (some ⟨b10, 0, none⟩) (List.length ([0, 2, 3])) 3] kr rfl ?_)
        refine (testgatemake_SameInts_ok st r6 r11 hx8).mono ?_
        clear st
        rintro _ w23 ⟨m15, rfl, hle14, st⟩
        refine ⟨_, rfl, ?_⟩
        have hm := Mem.le_trans hm hle14
        have r6 := r6.mono hle14
        have r8 := r8.mono hle14
        have r3 := r3.mono hle14
        have r9 := r9.mono hle14
        have r10 := r10.mono hle14
        have r11 := r11.mono hle14
        have r4 := r4.mono hle14
        have r1 := r1.mono hle14
        refine WO_seg 2 [(74, .bool y8)] kr kr ?_
        rcases bcases y8 with hc | hc
        ·rw [if_pos hc] at hr
         refine WO_fact (t := 74) (b := true) y8 kr hc ?_
         refine WO_seg 1 [(75, .slice a4 (List.length y4.1) c4)] kr kr ?_
         refine WO_one rfl (One_buildSlice (d := 76) (t := 22) (e := 3) (len := 1) (parts := #[(0, (.const (.int .i64 1)))]) (cInt .i64) (xs := [1]) [.int .i64 1] kr rfl (fun _ => buildCells_run kr _) rfl rfl st ⟨[.int .i64 1], _, rfl, rfl, rfl⟩ ?_)
         clear st
         intro b11 m16 w24 hle15 st r12
         have hm := Mem.le_trans hm hle15
         have r6 := r6.mono hle15
         have r8 := r8.mono hle15
         have r3 := r3.mono hle15
         have r9 := r9.mono hle15
         have r10 := r10.mono hle15
         have r11 := r11.mono hle15
         have r4 := r4.mono hle15
         have r1 := r1.mono hle15
         replace ⟨y9, hx9, hr⟩ := bindS hr
         refine WO_one rfl (One_fn 77 61 #[.slice a4 (List.length y4.1) c4, .slice (some ⟨b11, 0, none⟩) (List.length ([1])) 1] kr rfl ?_)
         refine (testgatemake_SameInts_ok st r8 r12 hx9).mono ?_
         clear st
         rintro _ w25 ⟨m17, rfl, hle16, st⟩
         refine ⟨_, rfl, ?_⟩
         have hm := Mem.le_trans hm hle16
         have r6 := r6.mono hle16
         have r8 := r8.mono hle16
         have r3 := r3.mono hle16
         have r9 := r9.mono hle16
         have r10 := r10.mono hle16
         have r11 := r11.mono hle16
         have r12 := r12.mono hle16
         have r4 := r4.mono hle16
         have r1 := r1.mono hle16
         refine WO_seg 2 [(0, .bool y9)] kr kr ?_
         obtain rfl := Option.some.inj hr
         have st := st.tail
         have st := st.tail
         have st := st.tail
         have st := st.tail
         have st := st.front7.front6.front5.front4.front4.front8.front8.front8.front8
         exact WO_env _ kr (K _ _ ⟨m17, rfl, hm, st, r4, r3, r1⟩)
        ·rw [if_neg (not_true hc)] at hr
         refine WO_fact (t := 74) (b := false) y8 kr hc ?_
         refine WO_seg 5 [(0, .bool false)] kr kr ?_
         obtain rfl := Option.some.inj hr
         have st := st.tail
         have st := st.tail
         have st := st.tail
         have st := st.front7.front6.front5.front4.front4.front8.front8.front8.front8
         exact WO_env _ kr (K _ _ ⟨m15, rfl, hm, st, r4, r3, r1⟩)
       ·rw [if_neg (not_true hc)] at hr
        refine WO_fact (t := 69) (b := false) y7 kr hc ?_
        refine WO_seg 10 [(0, .bool false)] kr kr ?_
        obtain rfl := Option.some.inj hr
        have st := st.tail
        have st := st.tail
        have st := st.front7.front6.front5.front4.front4.front8.front8.front8.front8
        exact WO_env _ kr (K _ _ ⟨m13, rfl, hm, st, r4, r3, r1⟩)
      ·rw [if_neg (not_true hc)] at hr
       refine WO_fact (t := 62) (b := false) y5 kr hc ?_
       refine WO_seg 17 [(0, .bool false)] kr kr ?_
       obtain rfl := Option.some.inj hr
       have st := st.front7.front6.front5.front4.front4.front8.front8.front8.front8
       exact WO_env _ kr (K _ _ ⟨m10, rfl, hm, st, r4, r3, r1⟩)
     ·rw [if_neg (not_true hc)] at hr
      refine WO_fact (t := 58) (b := false) (y4.2 == 0) kr hc ?_
      refine WO_seg 21 [(0, .bool false)] kr kr ?_
      obtain rfl := Option.some.inj hr
      have st := st.front7.front6.front5.front4.front4.front8.front8.front8.front8
      exact WO_env _ kr (K _ _ ⟨m8, rfl, hm, st, r4, r3, r1⟩)
    ·rw [if_neg (not_true hc)] at hr
     refine WO_fact (t := 54) (b := false) (y3.2 == 0) kr hc ?_
     refine WO_seg 25 [(0, .bool false)] kr kr ?_
     obtain rfl := Option.some.inj hr
     have st := st.front7.front6.front5.front4.front4.front8.front8.front8.front8
     exact WO_env _ kr (K _ _ ⟨m8, rfl, hm, st, r4, r3, r1⟩)
   ·rw [if_neg (not_true hc)] at hr
    refine WO_fact (t := 50) (b := false) (y2.2 == 0) kr hc ?_
    refine WO_seg 29 [(0, .bool false)] kr kr ?_
    obtain rfl := Option.some.inj hr
    have st := st.front7.front6.front5.front4.front4.front8.front8.front8.front8
    exact WO_env _ kr (K _ _ ⟨m8, rfl, hm, st, r4, r3, r1⟩)
  ·rw [if_neg (not_true hc)] at hr
   refine WO_fact (t := 46) (b := false) (y1.2 == 0) kr hc ?_
   refine WO_seg 33 [(0, .bool false)] kr kr ?_
   obtain rfl := Option.some.inj hr
   have st := st.front7.front6.front5.front4.front4.front8.front8.front8.front8
   exact WO_env _ kr (K _ _ ⟨m8, rfl, hm, st, r4, r3, r1⟩)
def testgateref18_Ints_L1 (N : Nat) (p0 : List Int) (p1 : List Int) (s1 : Int) : Option ((Int) ⊕ ((Unit) ⊕ (Bool))) :=
 if (decide (s1 < (List.length p0 : Int))) = true then ((idx p0 s1).bind fun x1 => (idx p1 s1).bind fun x2 => if (x1 != x2) = true then (some (.inr (.inr (false)))) else (some (.inl (IntKind.wrap .i64 (s1 + 1))))) else (some (.inr (.inl ())))
def testgateref18_Ints (N : Nat) (p0 : List Int) (p1 : List Int) : Option (Bool) :=
 if ((List.length p0 : Int) != (List.length p1 : Int)) = true then (some false) else ((loopM (testgateref18_Ints_L1 N p0 p1) N 0).bind fun out1 => (match out1 with | .inl o1 => some true | .inr (z) => some z))
set_option maxHeartbeats 4000000 in
set_option maxRecDepth 100000 in
theorem testgateref18_Ints_ok {N : Nat} {m : Mem} {own : List Piece} {w : World} {p0 : List Int} {p1 : List Int} {a1 : Option Addr} {c1 : Nat} {a2 : Option Addr} {c2 : Nat} {r : Bool} (st : St m (own) w) (r1 : RepS (cInt .i64) m a1 c1 p0) (r2 : RepS (cInt .i64) m a2 c2 p1) (hr : testgateref18_Ints N p0 p1 = some r) : Calls Tryd.prog 64 #[.slice a1 (List.length p0) c1, .slice a2 (List.length p1) c2] w fun e w' => ∃ (m' : Mem), e = .returned (.bool r) ∧ m.le m' ∧ St m' (own) w' := by
 unfold testgateref18_Ints at hr
 have hm := m.le_refl
 refine W_calls Tryd.func64 rfl Tryd.ntmps64 [(0, .slice a1 (List.length p0) c1), (1, .slice a2 (List.length p1) c2)] kr rfl ?_
 refine W_sr (WO_seg 1 [] kr kr ?_)
 refine WO_et rfl (W_seq ?_)
 refine W_sr (WO_seg 5 [(10, .bool ((List.length p0 : Int) != (List.length p1 : Int)))] kr kr ?_)
 refine WO_et rfl (W_cond ((List.length p0 : Int) != (List.length p1 : Int)) kr ?_ ?_)
 ·intro hc
  rw [if_pos hc] at hr
  refine W_sr (WO_seg 1 [(4, .bool false)] kr kr ?_)
  refine WO_et rfl (W_ret ?_)
  refine X_then_ret ?_
  obtain rfl := Option.some.inj hr
  refine X_ret [.tmp 4] [.bool false] rfl (ResAll.cons (ResAt.tmp kr) ResAll.nil) ?_
  exact ⟨m, rfl, hm, st⟩
 ·intro hc
  rw [if_neg (not_true hc)] at hr
  refine W_skip ?_
  refine X_then ?_
  refine W_seq ?_
  refine W_sr (WO_seg 3 [(12, .int .i64 (List.length p0 : Int)), (13, .int .i64 0)] kr kr ?_)
  refine WO_et rfl (W_block ?_)
  replace ⟨out1, hr, hrKu1⟩ := bindS hr
  refine W_cut (.exit 0) (fun L' w' => ∃ (o1 : Unit) (m1 : Mem), (.inl o1) = out1 ∧ L' = [] ∧ m.le m1 ∧ St m1 (own) w') ?_ ?_
  ·clear hr st
   rintro _ w1 ⟨o1, m1, rfl, rfl, hm, st⟩
   have hr := hrKu1
   clear hrKu1
   dsimp only at hr
   refine X_block_eq ?_
   refine X_then ?_
   refine W_sr (WO_seg 1 [(4, .bool true)] kr kr ?_)
   refine WO_et rfl (W_ret ?_)
   obtain rfl := Option.some.inj hr
   refine X_ret [.tmp 4] [.bool true] rfl (ResAll.cons (ResAt.tmp kr) ResAll.nil) ?_
   exact ⟨m1, rfl, hm, st⟩
  intro K0_u1
  refine W_env _ kr (W_loop (fun k1 L' w' => ∃ (s1 : Int) (m2 : Mem), loopM (testgateref18_Ints_L1 N p0 p1) k1 s1 = some out1 ∧ L' = [(0, .slice a1 (List.length p0) c1), (1, .slice a2 (List.length p1) c2), (12, .int .i64 (List.length p0 : Int)), (13, .int .i64 s1)] ∧ m.le m2 ∧ St m2 (own) w' ∧ RepS (cInt .i64) m2 a1 c1 p0 ∧ RepS (cInt .i64) m2 a2 c2 p1) N ⟨0, m, hr, rfl, hm, st, r1, r2⟩ ?_)
  clear st hr
  rintro k1 _ w2 ⟨s1, m2, hL, rfl, hm, st, r1, r2⟩
  rcases k1 with _ | k1
  ·exact loopM_zero hL
  ·obtain ⟨qu1, hr, hSu1, hBu1⟩ := loopM_succ hL
   clear hL
   unfold testgateref18_Ints_L1 at hr
   refine W_sr (WO_seg 1 [(14, .bool (decide (s1 < (List.length p0 : Int))))] kr kr ?_)
   refine WO_et rfl (W_seq ?_)
   refine W_cond (decide (s1 < (List.length p0 : Int))) kr ?_ ?_
   ·intro hc
    rw [if_pos hc] at hr
    refine W_skip ?_
    refine X_then ?_
    refine W_seq ?_
    refine W_block ?_
    refine W_sr (WO_seg 2 [(5, .int .i64 s1)] kr kr ?_)
    refine WO_et rfl (W_seq ?_)
    refine W_draw [(9, fun w' => Inv m2 w' ∧ True)] kr st ?_
    clear st
    intro w3 _ st
    have hmS1 := m2.le_refl
    refine ⟨⟨.inr ⟨Inv.anti st.inv hmS1, trivial⟩, trivial⟩, ?_⟩
    refine WA_pure 0 16 (.slice a1 (List.length p0) c1) kr rfl kr (.head _) (QP_then (QP_block (QP_then (QP_then (QP_block (QP_then QP_body)))))) ?_
    refine WA_pure 1 17 (.int .i64 s1) kr rfl kr (.head _) (QP_then (QP_block (QP_then (QP_then (QP_block (QP_then QP_body)))))) ?_
    replace ⟨x1, hx1, hr⟩ := bindS hr
    refine WA_index (t := 22) (e := 3) (x := (.tmp 16)) (y := (.tmp 17)) 2 18 (cInt .i64) kr rfl kr (.head _) (QP_then (QP_block (QP_then (QP_then (QP_block (QP_then QP_body)))))) (ev (.slice a1 (List.length p0) c1)) (ev (.int .i64 s1)) kr r1 hx1 ?_
    rintro b1 f1 cs1 rfl hq1
    refine WA_load_row (t := 3) (x := (.tmp 18)) 3 19 (.int .i64 x1) kr rfl kr (.head _) (QP_then (QP_block (QP_then (QP_then (QP_block (QP_then QP_body)))))) (fun _ h => h.1) (ev (.pointer (some ⟨b1, f1, none⟩))) hq1 kr ?_
    refine WA_pure 4 20 (.slice a2 (List.length p1) c2) kr rfl kr (.head _) (QP_then (QP_block (QP_then (QP_then (QP_block (QP_then QP_body)))))) ?_
    refine WA_pure 5 21 (.int .i64 s1) kr rfl kr (.head _) (QP_then (QP_block (QP_then (QP_then (QP_block (QP_then QP_body)))))) ?_
    replace ⟨x2, hx2, hr⟩ := bindS hr
    refine WA_index (t := 22) (e := 3) (x := (.tmp 20)) (y := (.tmp 21)) 6 22 (cInt .i64) kr rfl kr (.head _) (QP_then (QP_block (QP_then (QP_then (QP_block (QP_then QP_body)))))) (ev (.slice a2 (List.length p1) c2)) (ev (.int .i64 s1)) kr r2 hx2 ?_
    rintro b2 f2 cs2 rfl hq2
    refine WA_load_row (t := 3) (x := (.tmp 22)) 7 23 (.int .i64 x2) kr rfl kr (.head _) (QP_then (QP_block (QP_then (QP_then (QP_block (QP_then QP_body)))))) (fun _ h => h.1) (ev (.pointer (some ⟨b2, f2, none⟩))) hq2 kr ?_
    refine WA_pure 8 24 (.bool (x1 != x2)) kr rfl kr (.head _) (QP_then (QP_block (QP_then (QP_then (QP_block (QP_then QP_body)))))) ?_
    refine WA_done kr ?_
    refine X_then ?_
    refine W_cond (x1 != x2) kr ?_ ?_
    ·intro hc
     rw [if_pos hc] at hr
     refine W_sr (WO_seg 1 [(4, .bool false)] kr kr ?_)
     refine WO_et rfl (W_ret ?_)
     refine X_block_ret ?_
     refine X_then_ret ?_
     obtain rfl := Option.some.inj hr
     have ho := hBu1 _ rfl
     subst ho
     have hr := hrKu1
     dsimp only at hr
     refine X_then_ret ?_
     refine X_block_ret ?_
     refine X_then_ret ?_
     obtain rfl := Option.some.inj hr
     refine X_ret [.tmp 4] [.bool false] rfl (ResAll.cons (ResAt.tmp kr) ResAll.nil) ?_
     exact ⟨m2, rfl, hm, st⟩
    ·intro hc
     rw [if_neg (not_true hc)] at hr
     refine W_skip ?_
     refine X_block ?_
     refine X_then ?_
     refine W_region ?_
     refine WO_seg 2 [(13, .int .i64 (IntKind.wrap .i64 (s1 + 1)))] kr kr ?_
     refine WO_end rfl ?_
     obtain rfl := Option.some.inj hr
     have hL := hSu1 _ rfl
     exact X_env _ kr (X_round k1 (Nat.lt_succ_self _) ⟨IntKind.wrap .i64 (s1 + 1), m2, hL, rfl, hm, st, r1, r2⟩)
   ·intro hc
    rw [if_neg (not_true hc)] at hr
    refine W_exit ?_
    refine X_then_exit ?_
    obtain rfl := Option.some.inj hr
    have ho := hBu1 _ rfl
    refine X_then_exit ?_
    exact X_env _ kr (K0_u1 _ _ ⟨(), m2, ho, rfl, hm, st⟩)
def testgateref18_Same_L1 (N : Nat) (p0 : (List ((Int × ByteArray × ByteArray) × List Int)) × Int) (p1 : (List ((Int × ByteArray × ByteArray) × List Int)) × Int) (s1 : Int) : Option ((Int) ⊕ ((Unit) ⊕ (Bool))) :=
 if (decide (s1 < (List.length p0.1 : Int))) = true then ((idx p0.1 s1).bind fun x1 => (idx p1.1 s1).bind fun x2 => (if (!((x1.1.1 == x2.1.1) && ((x1.1.2.1.toList == x2.1.2.1.toList) && ((x1.1.2.2.toList == x2.1.2.2.toList) && true)))) = true then (some true) else ((testgateref18_Ints N x1.2 x2.2).bind fun y1 => some (!y1)) : Option (Bool)).bind fun o3 => if o3 = true then (some (.inr (.inr (false)))) else (some (.inl (IntKind.wrap .i64 (s1 + 1))))) else (some (.inr (.inl ())))
def testgateref18_Same (N : Nat) (p0 : (List ((Int × ByteArray × ByteArray) × List Int)) × Int) (p1 : (List ((Int × ByteArray × ByteArray) × List Int)) × Int) : Option (Bool) :=
 (if (p0.2 != p1.2) = true then (some true) else (some ((List.length p0.1 : Int) != (List.length p1.1 : Int))) : Option (Bool)).bind fun o1 => if o1 = true then (some false) else ((loopM (testgateref18_Same_L1 N p0 p1) N 0).bind fun out1 => (match out1 with | .inl o2 => some true | .inr (z) => some z))
set_option maxHeartbeats 4000000 in
set_option maxRecDepth 100000 in
theorem testgateref18_Same_ok {N : Nat} {m : Mem} {own : List Piece} {w : World} {p0 : (List ((Int × ByteArray × ByteArray) × List Int)) × Int} {p1 : (List ((Int × ByteArray × ByteArray) × List Int)) × Int} {a1 : Option Addr} {c1 : Nat} {a2 : Option Addr} {c2 : Nat} {r : Bool} (st : St m (own) w) (r1 : RepS (cPair (cPair (cInt .i64) (cPair cStr cStr)) (cSl (cInt .i64))) m a1 c1 p0.1) (r2 : RepS (cPair (cPair (cInt .i64) (cPair cStr cStr)) (cSl (cInt .i64))) m a2 c2 p1.1) (hr : testgateref18_Same N p0 p1 = some r) : Calls Tryd.prog 31 #[.agg #[.slice a1 (List.length p0.1) c1, .int .i64 p0.2], .agg #[.slice a2 (List.length p1.1) c2, .int .i64 p1.2]] w fun e w' => ∃ (m' : Mem), e = .returned (.bool r) ∧ m.le m' ∧ St m' (own) w' := by
 unfold testgateref18_Same at hr
 have hm := m.le_refl
 refine W_calls Tryd.func31 rfl Tryd.ntmps31 [(0, .agg #[.slice a1 (List.length p0.1) c1, .int .i64 p0.2]), (1, .agg #[.slice a2 (List.length p1.1) c2, .int .i64 p1.2])] kr rfl ?_
 refine W_sr (WO_one rfl (One_box (d := 2) (e := 64) (x := (.tmp 0)) (.agg #[.slice a1 (List.length p0.1) c1, .int .i64 p0.2]) kr rfl kr st ?_))
 clear st
 intro b1 m1 w1 hle1 st hb1
 have hm := Mem.le_trans hm hle1
 have r1 := r1.mono hle1
 have r2 := r2.mono hle1
 refine WO_one rfl (One_box (d := 3) (e := 64) (x := (.tmp 1)) (.agg #[.slice a2 (List.length p1.1) c2, .int .i64 p1.2]) kr rfl kr st ?_)
 clear st
 intro b2 m2 w2 hle2 st hb2
 have hm := Mem.le_trans hm hle2
 have r1 := r1.mono hle2
 have r2 := r2.mono hle2
 have hb1 := hb1.mono hle2
 refine WO_seg 1 [] kr kr ?_
 refine WO_et rfl (W_seq ?_)
 refine W_sr ?_
 replace ⟨o1, hr, hrK⟩ := bindS hr
 refine WO_cut (j := 14) (fun L' w' => ∃ (m3 : Mem), L' = [(2, .pointer (some ⟨b1, 0, none⟩)), (3, .pointer (some ⟨b2, 0, none⟩)), (21, .bool o1)] ∧ m.le m3 ∧ St m3 (own) w' ∧ MRow m3 b1 0 [.slice a1 (List.length p0.1) c1, .int .i64 p0.2] ∧ RepS (cPair (cPair (cInt .i64) (cPair cStr cStr)) (cSl (cInt .i64))) m3 a1 c1 p0.1 ∧ MRow m3 b2 0 [.slice a2 (List.length p1.1) c2, .int .i64 p1.2] ∧ RepS (cPair (cPair (cInt .i64) (cPair cStr cStr)) (cSl (cInt .i64))) m3 a2 c2 p1.1) ?_ ?_
 ·clear hr st
  have hr := hrK
  clear hrK
  rintro _ w3 ⟨m3, rfl, hm, st, hb1, r1, hb2, r2⟩
  refine WO_et rfl (W_cond o1 kr ?_ ?_)
  ·intro hc
   rw [if_pos hc] at hr
   refine W_sr (WO_seg 1 [(4, .bool false)] kr kr ?_)
   refine WO_et rfl (W_ret ?_)
   refine X_then_ret ?_
   obtain rfl := Option.some.inj hr
   refine X_ret [.tmp 4] [.bool false] rfl (ResAll.cons (ResAt.tmp kr) ResAll.nil) ?_
   exact ⟨m3, rfl, hm, st⟩
  ·intro hc
   rw [if_neg (not_true hc)] at hr
   refine W_skip ?_
   refine X_then ?_
   refine W_seq ?_
   refine W_sr (WO_seg 1 [(22, .pointer (some ⟨b1, 0, none⟩))] kr kr ?_)
   refine WO_one rfl (One_load_row (d := 23) (t := 62) (x := (.tmp 22)) (.slice a1 (List.length p0.1) c1) kr rfl (ev (.pointer (some ⟨b1, 0, none⟩))) st hb1 kr ?_)
   refine WO_seg 2 [(24, .int .i64 (List.length p0.1 : Int)), (25, .int .i64 0)] kr kr ?_
   refine WO_et rfl (W_block ?_)
   replace ⟨out1, hr, hrKu1⟩ := bindS hr
   refine W_cut (.exit 0) (fun L' w' => ∃ (o2 : Unit) (m4 : Mem), (.inl o2) = out1 ∧ L' = [] ∧ m.le m4 ∧ St m4 (own) w') ?_ ?_
   ·clear hr st
    rintro _ w4 ⟨o2, m4, rfl, rfl, hm, st⟩
    have hr := hrKu1
    clear hrKu1
    dsimp only at hr
    refine X_block_eq ?_
    refine X_then ?_
    refine W_sr (WO_seg 1 [(4, .bool true)] kr kr ?_)
    refine WO_et rfl (W_ret ?_)
    obtain rfl := Option.some.inj hr
    refine X_ret [.tmp 4] [.bool true] rfl (ResAll.cons (ResAt.tmp kr) ResAll.nil) ?_
    exact ⟨m4, rfl, hm, st⟩
   intro K0_u1
   refine W_env _ kr (W_loop (fun k1 L' w' => ∃ (s1 : Int) (m5 : Mem), loopM (testgateref18_Same_L1 N p0 p1) k1 s1 = some out1 ∧ L' = [(3, .pointer (some ⟨b2, 0, none⟩)), (23, .slice a1 (List.length p0.1) c1), (24, .int .i64 (List.length p0.1 : Int)), (25, .int .i64 s1)] ∧ m.le m5 ∧ St m5 (own) w' ∧ MRow m5 b2 0 [.slice a2 (List.length p1.1) c2, .int .i64 p1.2] ∧ RepS (cPair (cPair (cInt .i64) (cPair cStr cStr)) (cSl (cInt .i64))) m5 a2 c2 p1.1 ∧ RepS (cPair (cPair (cInt .i64) (cPair cStr cStr)) (cSl (cInt .i64))) m5 a1 c1 p0.1) N ⟨0, m3, hr, rfl, hm, st, hb2, r2, r1⟩ ?_)
   clear st hr
   rintro k1 _ w5 ⟨s1, m5, hL, rfl, hm, st, hb2, r2, r1⟩
   rcases k1 with _ | k1
   ·exact loopM_zero hL
   ·obtain ⟨qu1, hr, hSu1, hBu1⟩ := loopM_succ hL
    clear hL
    unfold testgateref18_Same_L1 at hr
    refine W_sr (WO_seg 1 [(26, .bool (decide (s1 < (List.length p0.1 : Int))))] kr kr ?_)
    refine WO_et rfl (W_seq ?_)
    refine W_cond (decide (s1 < (List.length p0.1 : Int))) kr ?_ ?_
    ·intro hc
     rw [if_pos hc] at hr
     refine W_skip ?_
     refine X_then ?_
     refine W_seq ?_
     refine W_block ?_
     refine W_sr (WO_seg 1 [(27, .int .i64 s1)] kr kr ?_)
     replace ⟨x1, hx1, hr⟩ := bindS hr
     refine WO_one rfl (One_index (d := 28) (t := 62) (e := 111) (x := (.tmp 23)) (y := (.tmp 25)) (cPair (cPair (cInt .i64) (cPair cStr cStr)) (cSl (cInt .i64))) kr rfl (ev (.slice a1 (List.length p0.1) c1)) (ev (.int .i64 s1)) kr r1 hx1 ?_)
     rintro b3 f1 cs1 ⟨_, _, rfl, ⟨_, _, rfl, rfl, ⟨_, _, rfl, rfl, rfl⟩⟩, ⟨a3, c3, rfl, r3⟩⟩ hq1
     refine WO_one rfl (One_load_row (d := 29) (t := 111) (x := (.tmp 28)) (.agg #[.int .i64 x1.1.1, .string x1.1.2.1, .string x1.1.2.2, .slice a3 (List.length x1.2) c3]) kr rfl (ev (.pointer (some ⟨b3, f1, none⟩))) st hq1 kr ?_)
     refine WO_one rfl (One_alloc (d := 6) (e := 111) (.agg #[.int .i64 0, .string (⟨#[]⟩ : ByteArray), .string (⟨#[]⟩ : ByteArray), .slice none 0 0]) kr rfl kr st ?_)
     clear st
     intro b4 w6 st
     refine WO_seg 1 [(5, .int .i64 s1)] kr kr ?_
     refine WO_one rfl (One_store (t := 111) (x := (.tmp 6)) (y := (.tmp 29)) (v := .agg #[.int .i64 x1.1.1, .string x1.1.2.1, .string x1.1.2.2, .slice a3 (List.length x1.2) c3]) (c' := #[.int .i64 x1.1.1, .string x1.1.2.1, .string x1.1.2.2, .slice a3 (List.length x1.2) c3]) kr (ev (.pointer (some ⟨b4, 0, none⟩))) (ev (.agg #[.int .i64 x1.1.1, .string x1.1.2.1, .string x1.1.2.2, .slice a3 (List.length x1.2) c3])) st kr kr ?_)
     clear st
     intro w7 st
     refine WO_et rfl (W_sr ?_)
     refine WO_seg 1 [(30, .pointer (some ⟨b2, 0, none⟩))] kr kr ?_
     refine WO_one rfl (One_load_row (d := 31) (t := 62) (x := (.tmp 30)) (.slice a2 (List.length p1.1) c2) kr rfl (ev (.pointer (some ⟨b2, 0, none⟩))) st hb2 kr ?_)
     refine WO_seg 1 [(32, .int .i64 s1)] kr kr ?_
     replace ⟨x2, hx2, hr⟩ := bindS hr
     refine WO_one rfl (One_index (d := 33) (t := 62) (e := 111) (x := (.tmp 31)) (y := (.tmp 32)) (cPair (cPair (cInt .i64) (cPair cStr cStr)) (cSl (cInt .i64))) kr rfl (ev (.slice a2 (List.length p1.1) c2)) (ev (.int .i64 s1)) kr r2 hx2 ?_)
     rintro b5 f2 cs2 ⟨_, _, rfl, ⟨_, _, rfl, rfl, ⟨_, _, rfl, rfl, rfl⟩⟩, ⟨a4, c4, rfl, r4⟩⟩ hq2
     refine WO_one rfl (One_load_row (d := 34) (t := 111) (x := (.tmp 33)) (.agg #[.int .i64 x2.1.1, .string x2.1.2.1, .string x2.1.2.2, .slice a4 (List.length x2.2) c4]) kr rfl (ev (.pointer (some ⟨b5, f2, none⟩))) st hq2 kr ?_)
     refine WO_one rfl (One_alloc (d := 7) (e := 111) (.agg #[.int .i64 0, .string (⟨#[]⟩ : ByteArray), .string (⟨#[]⟩ : ByteArray), .slice none 0 0]) kr rfl kr st ?_)
     clear st
     intro b6 w8 st
     refine WO_one rfl (One_store (t := 111) (x := (.tmp 7)) (y := (.tmp 34)) (v := .agg #[.int .i64 x2.1.1, .string x2.1.2.1, .string x2.1.2.2, .slice a4 (List.length x2.2) c4]) (c' := #[.int .i64 x2.1.1, .string x2.1.2.1, .string x2.1.2.2, .slice a4 (List.length x2.2) c4]) kr (ev (.pointer (some ⟨b6, 0, none⟩))) (ev (.agg #[.int .i64 x2.1.1, .string x2.1.2.1, .string x2.1.2.2, .slice a4 (List.length x2.2) c4])) st kr kr ?_)
     clear st
     intro w9 st
     refine WO_et rfl (W_sr ?_)
     replace ⟨o3, hr, hrK⟩ := bindS hr
     refine WO_cut (j := 13) (fun L' w' => ∃ (m6 : Mem), L' = [(3, .pointer (some ⟨b2, 0, none⟩)), (23, .slice a1 (List.length p0.1) c1), (24, .int .i64 (List.length p0.1 : Int)), (25, .int .i64 s1), (47, .bool o3)] ∧ m.le m6 ∧ St m6 (.blk b6 (.cells #[.int .i64 x2.1.1, .string x2.1.2.1, .string x2.1.2.2, .slice a4 (List.length x2.2) c4] 111 (0, 0)) :: .blk b4 (.cells #[.int .i64 x1.1.1, .string x1.1.2.1, .string x1.1.2.2, .slice a3 (List.length x1.2) c3] 111 (0, 0)) :: own) w' ∧ MRow m6 b2 0 [.slice a2 (List.length p1.1) c2, .int .i64 p1.2] ∧ RepS (cPair (cPair (cInt .i64) (cPair cStr cStr)) (cSl (cInt .i64))) m6 a2 c2 p1.1 ∧ RepS (cPair (cPair (cInt .i64) (cPair cStr cStr)) (cSl (cInt .i64))) m6 a1 c1 p0.1 ∧ RepS (cInt .i64) m6 a4 c4 x2.2 ∧ RepS (cInt .i64) m6 a3 c3 x1.2) ?_ ?_
     ·clear hr st
      have hr := hrK
      clear hrK
      rintro _ w10 ⟨m6, rfl, hm, st, hb2, r2, r1, r4, r3⟩
      refine WO_et rfl (W_cond o3 kr ?_ ?_)
      ·intro hc
       rw [if_pos hc] at hr
       refine W_sr (WO_seg 1 [(4, .bool false)] kr kr ?_)
       refine WO_et rfl (W_ret ?_)
       refine X_block_ret ?_
       refine X_then_ret ?_
       obtain rfl := Option.some.inj hr
       have ho := hBu1 _ rfl
       subst ho
       have hr := hrKu1
       dsimp only at hr
       refine X_then_ret ?_
       refine X_block_ret ?_
       refine X_then_ret ?_
       obtain rfl := Option.some.inj hr
       refine X_ret [.tmp 4] [.bool false] rfl (ResAll.cons (ResAt.tmp kr) ResAll.nil) ?_
       have st := st.tail
       have st := st.tail
       exact ⟨m6, rfl, hm, st⟩
      ·intro hc
       rw [if_neg (not_true hc)] at hr
       refine W_skip ?_
       refine X_block ?_
       refine X_then ?_
       refine W_region ?_
       refine WO_seg 2 [(25, .int .i64 (IntKind.wrap .i64 (s1 + 1)))] kr kr ?_
       refine WO_end rfl ?_
       obtain rfl := Option.some.inj hr
       have hL := hSu1 _ rfl
       have st := st.tail
       have st := st.tail
       exact X_env _ kr (X_round k1 (Nat.lt_succ_self _) ⟨IntKind.wrap .i64 (s1 + 1), m6, hL, rfl, hm, st, hb2, r2, r1⟩)
     ·intro K
      clear hrK
      refine WO_seg 1 [(35, .pointer (some ⟨b4, 0, none⟩))] kr kr ?_
      refine WO_one rfl (One_load_own (d := 36) (t := 29) (x := (.tmp 35)) (.agg #[.int .i64 x1.1.1, .string x1.1.2.1, .string x1.1.2.2]) kr rfl (ev (.pointer (some ⟨b4, 0, none⟩))) st.tail.head kr ?_)
      refine WO_seg 1 [(37, .pointer (some ⟨b6, 0, none⟩))] kr kr ?_
      refine WO_one rfl (One_load_own (d := 38) (t := 29) (x := (.tmp 37)) (.agg #[.int .i64 x2.1.1, .string x2.1.2.1, .string x2.1.2.2]) kr rfl (ev (.pointer (some ⟨b6, 0, none⟩))) st.head kr ?_)
      refine WO_one rfl (One_neAgg (d := 39) (t := 29) (t2 := 29) (x := (.tmp 36)) (y := (.tmp 38)) (xs := #[.int .i64 x1.1.1, .string x1.1.2.1, .string x1.1.2.2]) (ys := #[.int .i64 x2.1.1, .string x2.1.2.1, .string x2.1.2.2]) ((x1.1.1 == x2.1.1) && ((x1.1.2.1.toList == x2.1.2.1.toList) && ((x1.1.2.2.toList == x2.1.2.2.toList) && true))) kr rfl (ev (.agg #[.int .i64 x1.1.1, .string x1.1.2.1, .string x1.1.2.2])) (ev (.agg #[.int .i64 x2.1.1, .string x2.1.2.1, .string x2.1.2.2])) kr kr kr ?_)
      refine WO_seg 1 [(40, .bool (!((x1.1.1 == x2.1.1) && ((x1.1.2.1.toList == x2.1.2.1.toList) && ((x1.1.2.2.toList == x2.1.2.2.toList) && true)))))] kr kr ?_
      rcases bcases (!((x1.1.1 == x2.1.1) && ((x1.1.2.1.toList == x2.1.2.1.toList) && ((x1.1.2.2.toList == x2.1.2.2.toList) && true)))) with hc | hc
      ·rw [if_pos hc] at hr
       refine WO_fact (t := 40) (b := true) (!((x1.1.1 == x2.1.1) && ((x1.1.2.1.toList == x2.1.2.1.toList) && ((x1.1.2.2.toList == x2.1.2.2.toList) && true)))) kr hc ?_
       refine WO_seg 7 [(47, .bool true)] kr kr ?_
       obtain rfl := Option.some.inj hr
       have st := st.front1.front1
       exact WO_env _ kr (K _ _ ⟨m5, rfl, hm, st, hb2, r2, r1, r4, r3⟩)
      ·rw [if_neg (not_true hc)] at hr
       refine WO_fact (t := 40) (b := false) (!((x1.1.1 == x2.1.1) && ((x1.1.2.1.toList == x2.1.2.1.toList) && ((x1.1.2.2.toList == x2.1.2.2.toList) && true)))) kr hc ?_
       refine WO_seg 1 [(41, .pointer (some ⟨b4, 3, none⟩))] kr kr ?_
       refine WO_one rfl (One_load_own (d := 42) (t := 22) (x := (.tmp 41)) (.slice a3 (List.length x1.2) c3) kr rfl (ev (.pointer (some ⟨b4, 3, none⟩))) st.tail.head kr ?_)
       refine WO_seg 1 [(43, .pointer (some ⟨b6, 3, none⟩))] kr kr ?_
       refine WO_one rfl (One_load_own (d := 44) (t := 22) (x := (.tmp 43)) (.slice a4 (List.length x2.2) c4) kr rfl (ev (.pointer (some ⟨b6, 3, none⟩))) st.head kr ?_)
       replace ⟨y1, hx3, hr⟩ := bindS hr
       refine WO_one rfl (One_fn 45 64 #[.slice a3 (List.length x1.2) c3, .slice a4 (List.length x2.2) c4] kr rfl ?_)
       refine (testgateref18_Ints_ok st r3 r4 hx3).mono ?_
       clear st
       rintro _ w11 ⟨m7, rfl, hle3, st⟩
       refine ⟨_, rfl, ?_⟩
       have hm := Mem.le_trans hm hle3
       have hb2 := hb2.mono hle3
       have r2 := r2.mono hle3
       have r1 := r1.mono hle3
       have r3 := r3.mono hle3
       have r4 := r4.mono hle3
       refine WO_seg 2 [(47, .bool (!y1))] kr kr ?_
       obtain rfl := Option.some.inj hr
       have st := st.front1.front1
       exact WO_env _ kr (K _ _ ⟨m7, rfl, hm, st, hb2, r2, r1, r4, r3⟩)
    ·intro hc
     rw [if_neg (not_true hc)] at hr
     refine W_exit ?_
     refine X_then_exit ?_
     obtain rfl := Option.some.inj hr
     have ho := hBu1 _ rfl
     refine X_then_exit ?_
     exact X_env _ kr (K0_u1 _ _ ⟨(), m5, ho, rfl, hm, st⟩)
 ·intro K
  clear hrK
  refine WO_seg 1 [(8, .pointer (some ⟨b1, 1, none⟩))] kr kr ?_
  refine WO_one rfl (One_load_row (d := 9) (t := 3) (x := (.tmp 8)) (.int .i64 p0.2) kr rfl (ev (.pointer (some ⟨b1, 1, none⟩))) st (hb1.drop 1) kr ?_)
  refine WO_seg 1 [(10, .pointer (some ⟨b2, 1, none⟩))] kr kr ?_
  refine WO_one rfl (One_load_row (d := 11) (t := 3) (x := (.tmp 10)) (.int .i64 p1.2) kr rfl (ev (.pointer (some ⟨b2, 1, none⟩))) st (hb2.drop 1) kr ?_)
  refine WO_seg 2 [(13, .bool (p0.2 != p1.2))] kr kr ?_
  rcases bcases (p0.2 != p1.2) with hc | hc
  ·rw [if_pos hc] at hr
   refine WO_fact (t := 13) (b := true) (p0.2 != p1.2) kr hc ?_
   refine WO_seg 8 [(21, .bool true)] kr kr ?_
   obtain rfl := Option.some.inj hr
   exact WO_env _ kr (K _ _ ⟨m2, rfl, hm, st, hb1, r1, hb2, r2⟩)
  ·rw [if_neg (not_true hc)] at hr
   refine WO_fact (t := 13) (b := false) (p0.2 != p1.2) kr hc ?_
   refine WO_seg 1 [(14, .pointer (some ⟨b1, 0, none⟩))] kr kr ?_
   refine WO_one rfl (One_load_row (d := 15) (t := 62) (x := (.tmp 14)) (.slice a1 (List.length p0.1) c1) kr rfl (ev (.pointer (some ⟨b1, 0, none⟩))) st hb1 kr ?_)
   refine WO_seg 2 [(16, .int .i64 (List.length p0.1 : Int)), (17, .pointer (some ⟨b2, 0, none⟩))] kr kr ?_
   refine WO_one rfl (One_load_row (d := 18) (t := 62) (x := (.tmp 17)) (.slice a2 (List.length p1.1) c2) kr rfl (ev (.pointer (some ⟨b2, 0, none⟩))) st hb2 kr ?_)
   refine WO_seg 3 [(21, .bool ((List.length p0.1 : Int) != (List.length p1.1 : Int)))] kr kr ?_
   obtain rfl := Option.some.inj hr
   exact WO_env _ kr (K _ _ ⟨m2, rfl, hm, st, hb1, r1, hb2, r2⟩)
def testgatelaw18_IndexGrows_L1 (N : Nat) (y1 : (List Int × Int) × (List ((ByteArray × ByteArray) × Int × Int × Int × (Int × Int × Int) × Bool × (List ((Int × ByteArray × ByteArray) × Int))))) (s1 : Int × (List ((Int × ByteArray × ByteArray) × List Int)) × Int) : Option ((Int × (List ((Int × ByteArray × ByteArray) × List Int)) × Int) ⊕ (((List ((Int × ByteArray × ByteArray) × List Int)) × Int) ⊕ (Bool))) :=
 if (decide (s1.1 < (List.length y1.2 : Int))) = true then ((idx y1.2 s1.1).bind fun x1 => (index_Add N (s1.2.1, s1.2.2) ((x1.1.1, x1.1.2), x1.2.1, x1.2.2.1, x1.2.2.2.1, (x1.2.2.2.2.1.1, x1.2.2.2.2.1.2.1, x1.2.2.2.2.1.2.2), x1.2.2.2.2.2.1, x1.2.2.2.2.2.2)).bind fun y4 => if (y4.2 != 0) = true then (some (.inr (.inr (false)))) else (some (.inl (IntKind.wrap .i64 (s1.1 + 1), y4.1.1, y4.1.2)))) else (some (.inr (.inl (s1.2.1, s1.2.2))))
def testgatelaw18_IndexGrows (N : Nat) (p0 : List Int) : Option (Bool) :=
 (testgatelaw18_records N (p0, 0)).bind fun y1 => (index_Build N y1.2).bind fun y2 => if (y2.2 != 0) = true then ((testgatelaw18_awake N).bind fun y3 => some y3) else ((loopM (testgatelaw18_IndexGrows_L1 N y1) N (0, ([] : List ((Int × ByteArray × ByteArray) × List Int)), 0)).bind fun out1 => (match out1 with | .inl o1 => (testgatemake_Key N (y1.1.1, y1.1.2)).bind fun y5 => (testgatemake_Key N (y5.1.1, y5.1.2)).bind fun y6 => (testgatemake_Key N (y6.1.1, y6.1.2)).bind fun y7 => (index_Affected N (o1.1, o1.2) ([(y5.2.1, y5.2.2.1, y5.2.2.2), (y6.2.1, y6.2.2.1, y6.2.2.2), (y7.2.1, y7.2.2.1, y7.2.2.2)])).bind fun y8 => (index_Unaffected N (o1.1, o1.2) ([(y5.2.1, y5.2.2.1, y5.2.2.2), (y6.2.1, y6.2.2.1, y6.2.2.2), (y7.2.1, y7.2.2.1, y7.2.2.2)])).bind fun y9 => (if (y8.2 == 0) = true then (if (y9.2 == 0) = true then ((testgateref18_Same N (o1.1, o1.2) (y2.1.1, y2.1.2)).bind fun y10 => if y10 = true then (if ((IntKind.wrap .i64 ((List.length y8.1 : Int) + (List.length y9.1 : Int))) == (List.length y1.2 : Int)) = true then ((testgatelaw18_awake N).bind fun y11 => some y11) else (some false)) else (some false)) else (some false)) else (some false) : Option (Bool)).bind fun o2 => some o2 | .inr (z) => some z))
set_option maxHeartbeats 4000000 in
set_option maxRecDepth 100000 in
theorem testgatelaw18_IndexGrows_ok {N : Nat} {m : Mem} {own : List Piece} {w : World} {p0 : List Int} {a1 : Option Addr} {c1 : Nat} {r : Bool} (st : St m (own) w) (r1 : RepS (cInt .i64) m a1 c1 p0) (hr : testgatelaw18_IndexGrows N p0 = some r) : Calls Tryd.prog 6 #[.slice a1 (List.length p0) c1] w fun e w' => ∃ (m' : Mem), e = .returned (.bool r) ∧ m.le m' ∧ St m' (own) w' := by
 unfold testgatelaw18_IndexGrows at hr
 have hm := m.le_refl
 refine W_calls Tryd.func6 rfl Tryd.ntmps6 [(0, .slice a1 (List.length p0) c1)] kr rfl ?_
 refine W_sr (WO_seg 1 [] kr kr ?_)
 refine WO_et rfl (W_sr ?_)
 refine WO_seg 2 [(18, .agg #[.slice a1 (List.length p0) c1, .int .i64 0])] kr kr ?_
 refine WO_one rfl (One_box_own (d := 19) (e := 26) (x := (.tmp 18)) (.agg #[.slice a1 (List.length p0) c1, .int .i64 0]) kr rfl kr st ?_)
 clear st
 intro b1 w1 st
 refine WO_seg 1 [(3, .pointer (some ⟨b1, 0, none⟩))] kr kr ?_
 refine WO_et rfl (W_sr ?_)
 refine WO_seg 1 [(20, .pointer (some ⟨b1, 0, none⟩))] kr kr ?_
 replace ⟨y1, hx1, hr⟩ := bindS hr
 refine WO_one rfl (One_fn 21 25 #[.pointer (some ⟨b1, 0, none⟩)] kr rfl ?_)
 refine (testgatelaw18_records_ok st r1 hx1).mono ?_
 clear st
 rintro _ w2 ⟨a2, c2, a3, c3, m2, rfl, hle2, st, r2, r3⟩
 refine ⟨_, rfl, ?_⟩
 have hm := Mem.le_trans hm hle2
 have r1 := r1.mono hle2
 refine WO_seg 1 [(4, .slice a3 (List.length y1.2) c3)] kr kr ?_
 refine WO_et rfl (W_sr ?_)
 refine WO_seg 1 [(23, .slice a3 (List.length y1.2) c3)] kr kr ?_
 replace ⟨y2, hx2, hr⟩ := bindS hr
 refine WO_one rfl (One_fn 24 26 #[.slice a3 (List.length y1.2) c3] kr rfl ?_)
 refine (index_Build_ok st r3 hx2).mono ?_
 clear st
 rintro _ w3 ⟨a4, c4, m3, rfl, hle3, st, r4⟩
 refine ⟨_, rfl, ?_⟩
 have hm := Mem.le_trans hm hle3
 have r3 := r3.mono hle3
 have r2 := r2.mono hle3
 refine WO_seg 3 [(25, .agg #[.slice a4 (List.length y2.1.1) c4, .int .i64 y2.1.2]), (26, .int .i64 y2.2)] kr kr ?_
 refine WO_one rfl (One_alloc (d := 5) (e := 64) (.agg #[.slice none 0 0, .int .i64 0]) kr rfl kr st ?_)
 clear st
 intro b2 w4 st
 refine WO_one rfl (One_store (t := 64) (x := (.tmp 5)) (y := (.tmp 25)) (v := .agg #[.slice a4 (List.length y2.1.1) c4, .int .i64 y2.1.2]) (c' := #[.slice a4 (List.length y2.1.1) c4, .int .i64 y2.1.2]) kr (ev (.pointer (some ⟨b2, 0, none⟩))) (ev (.agg #[.slice a4 (List.length y2.1.1) c4, .int .i64 y2.1.2])) st kr kr ?_)
 clear st
 intro w5 st
 refine WO_seg 1 [(6, .int .i64 y2.2)] kr kr ?_
 refine WO_et rfl (W_seq ?_)
 refine W_sr (WO_seg 2 [(28, .bool (y2.2 != 0))] kr kr ?_)
 refine WO_et rfl (W_cond (y2.2 != 0) kr ?_ ?_)
 ·intro hc
  rw [if_pos hc] at hr
  refine W_sr ?_
  replace ⟨y3, hx3, hr⟩ := bindS hr
  refine WO_one rfl (One_fn 29 27 #[] kr rfl ?_)
  refine (testgatelaw18_awake_ok st hx3).mono ?_
  clear st
  rintro _ w6 ⟨m4, rfl, hle4, st⟩
  refine ⟨_, rfl, ?_⟩
  have hm := Mem.le_trans hm hle4
  have r3 := r3.mono hle4
  have r4 := r4.mono hle4
  have r2 := r2.mono hle4
  refine WO_seg 1 [(2, .bool y3)] kr kr ?_
  refine WO_end rfl ?_
  have st := st.front2
  have st := st.tail
  refine X_then ?_
  refine W_ret ?_
  refine X_then_ret ?_
  obtain rfl := Option.some.inj hr
  refine X_ret [.tmp 2] [.bool y3] rfl (ResAll.cons (ResAt.tmp kr) ResAll.nil) ?_
  have st := st.tail
  have st := st.tail
  have st := st.tail
  exact ⟨m4, rfl, hm, st⟩
 ·intro hc
  rw [if_neg (not_true hc)] at hr
  refine W_skip ?_
  refine X_then ?_
  refine W_sr (WO_one rfl (One_alloc (d := 7) (e := 64) (.agg #[.slice none 0 0, .int .i64 0]) kr rfl kr st ?_))
  clear st
  intro b3 w7 st
  refine WO_et rfl (W_seq ?_)
  refine W_sr (WO_seg 3 [(30, .slice a3 (List.length y1.2) c3), (31, .int .i64 (List.length y1.2 : Int)), (32, .int .i64 0)] kr kr ?_)
  refine WO_et rfl (W_block ?_)
  replace ⟨out1, hr, hrKu1⟩ := bindS hr
  refine W_cut (.exit 0) (fun L' w' => ∃ (o1 : (List ((Int × ByteArray × ByteArray) × List Int)) × Int) (a5 : Option Addr) (c5 : Nat) (m5 : Mem), (.inl o1) = out1 ∧ L' = [(3, .pointer (some ⟨b1, 0, none⟩)), (4, .slice a3 (List.length y1.2) c3), (5, .pointer (some ⟨b2, 0, none⟩)), (7, .pointer (some ⟨b3, 0, none⟩))] ∧ m.le m5 ∧ St m5 (.blk b3 (.cells #[.slice a5 (List.length o1.1) c5, .int .i64 o1.2] 64 (0, 0)) :: .blk b2 (.cells #[.slice a4 (List.length y2.1.1) c4, .int .i64 y2.1.2] 64 (0, 0)) :: .blk b1 (.cells #[.slice a2 (List.length y1.1.1) c2, .int .i64 y1.1.2] 26 (0, 0)) :: .room a4 (List.length y2.1.1) c4 111 4 :: .room a3 (List.length y1.2) c3 73 10 :: .room a5 (List.length o1.1) c5 111 4 :: own) w' ∧ RepS (cPair (cPair cStr cStr) (cPair (cInt .i64) (cPair (cInt .i64) (cPair (cInt .i64) (cPair (cPair (cInt .i64) (cPair (cInt .i64) (cInt .i64))) (cPair cBool (cSl (cPair (cPair (cInt .i64) (cPair cStr cStr)) (cInt .i64))))))))) m5 a3 c3 y1.2 ∧ RepS (cPair (cPair (cInt .i64) (cPair cStr cStr)) (cSl (cInt .i64))) m5 a5 c5 o1.1 ∧ RepS (cPair (cPair (cInt .i64) (cPair cStr cStr)) (cSl (cInt .i64))) m5 a4 c4 y2.1.1 ∧ RepS (cInt .i64) m5 a2 c2 y1.1.1) ?_ ?_
  ·clear hr st
   rintro _ w8 ⟨o1, a5, c5, m5, rfl, rfl, hm, st, r3, r5, r4, r2⟩
   have hr := hrKu1
   clear hrKu1
   dsimp only at hr
   refine X_block_eq ?_
   refine X_then ?_
   refine W_sr (WO_seg 1 [(46, .pointer (some ⟨b1, 0, none⟩))] kr kr ?_)
   have st := st.front2
   replace ⟨y5, hx6, hr⟩ := bindS hr
   refine WO_one rfl (One_fn 47 8 #[.pointer (some ⟨b1, 0, none⟩)] kr rfl ?_)
   refine (testgatemake_Key_ok st r2 hx6).mono ?_
   clear st
   rintro _ w16 ⟨a9, c9, m8, rfl, hle6, st, r9⟩
   refine ⟨_, rfl, ?_⟩
   have hm := Mem.le_trans hm hle6
   have r3 := r3.mono hle6
   have r2 := r2.mono hle6
   have r5 := r5.mono hle6
   have r4 := r4.mono hle6
   refine WO_seg 1 [(48, .pointer (some ⟨b1, 0, none⟩))] kr kr ?_
   replace ⟨y6, hx7, hr⟩ := bindS hr
   refine WO_one rfl (One_fn 49 8 #[.pointer (some ⟨b1, 0, none⟩)] kr rfl ?_)
   refine (testgatemake_Key_ok st r9 hx7).mono ?_
   clear st
   rintro _ w17 ⟨a10, c10, m9, rfl, hle7, st, r10⟩
   refine ⟨_, rfl, ?_⟩
   have hm := Mem.le_trans hm hle7
   have r3 := r3.mono hle7
   have r9 := r9.mono hle7
   have r5 := r5.mono hle7
   have r4 := r4.mono hle7
   refine WO_seg 1 [(50, .pointer (some ⟨b1, 0, none⟩))] kr kr ?_
   replace ⟨y7, hx8, hr⟩ := bindS hr
   refine WO_one rfl (One_fn 51 8 #[.pointer (some ⟨b1, 0, none⟩)] kr rfl ?_)
   refine (testgatemake_Key_ok st r10 hx8).mono ?_
   clear st
   rintro _ w18 ⟨a11, c11, m10, rfl, hle8, st, r11⟩
   refine ⟨_, rfl, ?_⟩
   have hm := Mem.le_trans hm hle8
   have r3 := r3.mono hle8
   have r10 := r10.mono hle8
   have r5 := r5.mono hle8
   have r4 := r4.mono hle8
   refine WO_one rfl (One_buildSlice (d := 52) (t := 23) (e := 29) (len := 3) (parts := #[(0, (.tmp 47)), (1, (.tmp 49)), (2, (.tmp 51))]) (cPair (cInt .i64) (cPair cStr cStr)) (xs := [(y5.2.1, y5.2.2.1, y5.2.2.2), (y6.2.1, y6.2.2.1, y6.2.2.2), (y7.2.1, y7.2.2.1, y7.2.2.2)]) [.int .i64 y5.2.1, .string y5.2.2.1, .string y5.2.2.2, .int .i64 y6.2.1, .string y6.2.2.1, .string y6.2.2.2, .int .i64 y7.2.1, .string y7.2.2.1, .string y7.2.2.2] kr rfl (fun _ => buildCells_run kr _) rfl rfl st ⟨[.int .i64 y5.2.1, .string y5.2.2.1, .string y5.2.2.2], _, rfl, ⟨_, _, rfl, rfl, ⟨_, _, rfl, rfl, rfl⟩⟩, ⟨[.int .i64 y6.2.1, .string y6.2.2.1, .string y6.2.2.2], _, rfl, ⟨_, _, rfl, rfl, ⟨_, _, rfl, rfl, rfl⟩⟩, ⟨[.int .i64 y7.2.1, .string y7.2.2.1, .string y7.2.2.2], _, rfl, ⟨_, _, rfl, rfl, ⟨_, _, rfl, rfl, rfl⟩⟩, rfl⟩⟩⟩ ?_)
   clear st
   intro b7 m11 w19 hle9 st r12
   have hm := Mem.le_trans hm hle9
   have r3 := r3.mono hle9
   have r11 := r11.mono hle9
   have r5 := r5.mono hle9
   have r4 := r4.mono hle9
   refine WO_seg 1 [(12, .slice (some ⟨b7, 0, none⟩) (List.length ([(y5.2.1, y5.2.2.1, y5.2.2.2), (y6.2.1, y6.2.2.1, y6.2.2.2), (y7.2.1, y7.2.2.1, y7.2.2.2)])) 3)] kr kr ?_
   refine WO_et rfl (W_sr ?_)
   refine WO_one rfl (One_load_own (d := 54) (t := 64) (x := (.tmp 7)) (.agg #[.slice a5 (List.length o1.1) c5, .int .i64 o1.2]) kr rfl (ev (.pointer (some ⟨b3, 0, none⟩))) st.tail.tail.head kr ?_)
   refine WO_seg 1 [(55, .slice (some ⟨b7, 0, none⟩) (List.length ([(y5.2.1, y5.2.2.1, y5.2.2.2), (y6.2.1, y6.2.2.1, y6.2.2.2), (y7.2.1, y7.2.2.1, y7.2.2.2)])) 3)] kr kr ?_
   replace ⟨y8, hx9, hr⟩ := bindS hr
   refine WO_one rfl (One_fn 56 29 #[.agg #[.slice a5 (List.length o1.1) c5, .int .i64 o1.2], .slice (some ⟨b7, 0, none⟩) (List.length ([(y5.2.1, y5.2.2.1, y5.2.2.2), (y6.2.1, y6.2.2.1, y6.2.2.2), (y7.2.1, y7.2.2.1, y7.2.2.2)])) 3] kr rfl ?_)
   refine (index_Affected_ok st r5 r12 hx9).mono ?_
   clear st
   rintro _ w20 ⟨a12, c12, m12, rfl, hle10, st, r13⟩
   refine ⟨_, rfl, ?_⟩
   have hm := Mem.le_trans hm hle10
   have r3 := r3.mono hle10
   have r12 := r12.mono hle10
   have r5 := r5.mono hle10
   have r11 := r11.mono hle10
   have r4 := r4.mono hle10
   refine WO_seg 5 [(13, .slice a12 (List.length y8.1) c12), (14, .int .i64 y8.2)] kr kr ?_
   refine WO_et rfl (W_sr ?_)
   refine WO_one rfl (One_load_own (d := 60) (t := 64) (x := (.tmp 7)) (.agg #[.slice a5 (List.length o1.1) c5, .int .i64 o1.2]) kr rfl (ev (.pointer (some ⟨b3, 0, none⟩))) st.tail.tail.tail.head kr ?_)
   refine WO_seg 1 [(61, .slice (some ⟨b7, 0, none⟩) (List.length ([(y5.2.1, y5.2.2.1, y5.2.2.2), (y6.2.1, y6.2.2.1, y6.2.2.2), (y7.2.1, y7.2.2.1, y7.2.2.2)])) 3)] kr kr ?_
   replace ⟨y9, hx10, hr⟩ := bindS hr
   refine WO_one rfl (One_fn 62 30 #[.agg #[.slice a5 (List.length o1.1) c5, .int .i64 o1.2], .slice (some ⟨b7, 0, none⟩) (List.length ([(y5.2.1, y5.2.2.1, y5.2.2.2), (y6.2.1, y6.2.2.1, y6.2.2.2), (y7.2.1, y7.2.2.1, y7.2.2.2)])) 3] kr rfl ?_)
   refine (index_Unaffected_ok st r5 r12 hx10).mono ?_
   clear st
   rintro _ w21 ⟨a13, c13, m13, rfl, hle11, st, r14⟩
   refine ⟨_, rfl, ?_⟩
   have hm := Mem.le_trans hm hle11
   have r3 := r3.mono hle11
   have r12 := r12.mono hle11
   have r13 := r13.mono hle11
   have r5 := r5.mono hle11
   have r11 := r11.mono hle11
   have r4 := r4.mono hle11
   refine WO_seg 5 [(15, .slice a13 (List.length y9.1) c13), (16, .int .i64 y9.2)] kr kr ?_
   refine WO_end rfl ?_
   have st := st.front2
   have st := st.tail
   refine X_then ?_
   refine W_sr ?_
   replace ⟨o2, hr, hrK⟩ := bindS hr
   refine WO_cut (j := 25) (fun L' w' => ∃ (m14 : Mem), L' = [(2, .bool o2)] ∧ m.le m14 ∧ St m14 (.blk b1 (.cells #[.slice a11 (List.length y7.1.1) c11, .int .i64 y7.1.2] 26 (0, 0)) :: .blk b3 (.cells #[.slice a5 (List.length o1.1) c5, .int .i64 o1.2] 64 (0, 0)) :: .blk b2 (.cells #[.slice a4 (List.length y2.1.1) c4, .int .i64 y2.1.2] 64 (0, 0)) :: .room a13 (List.length y9.1) c13 3 1 :: .room a12 (List.length y8.1) c12 3 1 :: .room a4 (List.length y2.1.1) c4 111 4 :: .room a3 (List.length y1.2) c3 73 10 :: .room a5 (List.length o1.1) c5 111 4 :: own) w' ∧ RepS (cInt .i64) m14 a11 c11 y7.1.1 ∧ RepS (cPair (cPair (cInt .i64) (cPair cStr cStr)) (cSl (cInt .i64))) m14 a5 c5 o1.1 ∧ RepS (cPair (cPair (cInt .i64) (cPair cStr cStr)) (cSl (cInt .i64))) m14 a4 c4 y2.1.1) ?_ ?_
   ·clear hr st
    have hr := hrK
    clear hrK
    rintro _ w22 ⟨m14, rfl, hm, st, r11, r5, r4⟩
    refine WO_et rfl (W_ret ?_)
    obtain rfl := Option.some.inj hr
    refine X_ret [.tmp 2] [.bool o2] rfl (ResAll.cons (ResAt.tmp kr) ResAll.nil) ?_
    have st := st.tail
    have st := st.tail
    have st := st.tail
    have st := st.tail
    have st := st.tail
    have st := st.tail
    have st := st.tail
    have st := st.tail
    exact ⟨m14, rfl, hm, st⟩
   ·intro K
    clear hrK
    refine WO_seg 3 [(67, .bool (y8.2 == 0))] kr kr ?_
    rcases bcases (y8.2 == 0) with hc | hc
    ·rw [if_pos hc] at hr
     refine WO_fact (t := 67) (b := true) (y8.2 == 0) kr hc ?_
     refine WO_seg 4 [(71, .bool (y9.2 == 0))] kr kr ?_
     rcases bcases (y9.2 == 0) with hc | hc
     ·rw [if_pos hc] at hr
      refine WO_fact (t := 71) (b := true) (y9.2 == 0) kr hc ?_
      refine WO_one rfl (One_load_own (d := 72) (t := 64) (x := (.tmp 7)) (.agg #[.slice a5 (List.length o1.1) c5, .int .i64 o1.2]) kr rfl (ev (.pointer (some ⟨b3, 0, none⟩))) st.tail.tail.tail.head kr ?_)
      refine WO_one rfl (One_load_own (d := 73) (t := 64) (x := (.tmp 5)) (.agg #[.slice a4 (List.length y2.1.1) c4, .int .i64 y2.1.2]) kr rfl (ev (.pointer (some ⟨b2, 0, none⟩))) st.tail.tail.tail.tail.head kr ?_)
      replace ⟨y10, hx11, hr⟩ := bindS hr
      refine WO_one rfl (One_fn 74 31 #[.agg #[.slice a5 (List.length o1.1) c5, .int .i64 o1.2], .agg #[.slice a4 (List.length y2.1.1) c4, .int .i64 y2.1.2]] kr rfl ?_)
      refine (testgateref18_Same_ok st r5 r4 hx11).mono ?_
      clear st
      rintro _ w23 ⟨m15, rfl, hle12, st⟩
      refine ⟨_, rfl, ?_⟩
      have hm := Mem.le_trans hm hle12
      have r3 := r3.mono hle12
      have r13 := r13.mono hle12
      have r14 := r14.mono hle12
      have r5 := r5.mono hle12
      have r4 := r4.mono hle12
      have r11 := r11.mono hle12
      refine WO_seg 2 [(76, .bool y10)] kr kr ?_
      rcases bcases y10 with hc | hc
      ·rw [if_pos hc] at hr
       refine WO_fact (t := 76) (b := true) y10 kr hc ?_
       refine WO_seg 10 [(86, .bool ((IntKind.wrap .i64 ((List.length y8.1 : Int) + (List.length y9.1 : Int))) == (List.length y1.2 : Int)))] kr kr ?_
       rcases bcases ((IntKind.wrap .i64 ((List.length y8.1 : Int) + (List.length y9.1 : Int))) == (List.length y1.2 : Int)) with hc | hc
       ·rw [if_pos hc] at hr
        refine WO_fact (t := 86) (b := true) ((IntKind.wrap .i64 ((List.length y8.1 : Int) + (List.length y9.1 : Int))) == (List.length y1.2 : Int)) kr hc ?_
        replace ⟨y11, hx12, hr⟩ := bindS hr
        refine WO_one rfl (One_fn 87 27 #[] kr rfl ?_)
        refine (testgatelaw18_awake_ok st hx12).mono ?_
        clear st
        rintro _ w24 ⟨m16, rfl, hle13, st⟩
        refine ⟨_, rfl, ?_⟩
        have hm := Mem.le_trans hm hle13
        have r3 := r3.mono hle13
        have r13 := r13.mono hle13
        have r14 := r14.mono hle13
        have r5 := r5.mono hle13
        have r4 := r4.mono hle13
        have r11 := r11.mono hle13
        refine WO_seg 2 [(2, .bool y11)] kr kr ?_
        obtain rfl := Option.some.inj hr
        have st := st.front7.front7.front7.front4.front4.front7.front7.front7
        exact WO_env _ kr (K _ _ ⟨m16, rfl, hm, st, r11, r5, r4⟩)
       ·rw [if_neg (not_true hc)] at hr
        refine WO_fact (t := 86) (b := false) ((IntKind.wrap .i64 ((List.length y8.1 : Int) + (List.length y9.1 : Int))) == (List.length y1.2 : Int)) kr hc ?_
        refine WO_seg 3 [(2, .bool false)] kr kr ?_
        obtain rfl := Option.some.inj hr
        have st := st.front7.front7.front7.front4.front4.front7.front7.front7
        exact WO_env _ kr (K _ _ ⟨m15, rfl, hm, st, r11, r5, r4⟩)
      ·rw [if_neg (not_true hc)] at hr
       refine WO_fact (t := 76) (b := false) y10 kr hc ?_
       refine WO_seg 13 [(2, .bool false)] kr kr ?_
       obtain rfl := Option.some.inj hr
       have st := st.front7.front7.front7.front4.front4.front7.front7.front7
       exact WO_env _ kr (K _ _ ⟨m15, rfl, hm, st, r11, r5, r4⟩)
     ·rw [if_neg (not_true hc)] at hr
      refine WO_fact (t := 71) (b := false) (y9.2 == 0) kr hc ?_
      refine WO_seg 18 [(2, .bool false)] kr kr ?_
      obtain rfl := Option.some.inj hr
      have st := st.front7.front7.front7.front4.front4.front7.front7.front7
      exact WO_env _ kr (K _ _ ⟨m13, rfl, hm, st, r11, r5, r4⟩)
    ·rw [if_neg (not_true hc)] at hr
     refine WO_fact (t := 67) (b := false) (y8.2 == 0) kr hc ?_
     refine WO_seg 22 [(2, .bool false)] kr kr ?_
     obtain rfl := Option.some.inj hr
     have st := st.front7.front7.front7.front4.front4.front7.front7.front7
     exact WO_env _ kr (K _ _ ⟨m13, rfl, hm, st, r11, r5, r4⟩)
  intro K0_u1
  have st := st.nilroom 111 4
  have st := st.front4.front4.front5.front5.front5
  refine W_env _ kr (W_loop (fun k1 L' w' => ∃ (s1 : Int × (List ((Int × ByteArray × ByteArray) × List Int)) × Int) (a6 : Option Addr) (c6 : Nat) (m6 : Mem), loopM (testgatelaw18_IndexGrows_L1 N y1) k1 s1 = some out1 ∧ L' = [(3, .pointer (some ⟨b1, 0, none⟩)), (4, .slice a3 (List.length y1.2) c3), (5, .pointer (some ⟨b2, 0, none⟩)), (7, .pointer (some ⟨b3, 0, none⟩)), (30, .slice a3 (List.length y1.2) c3), (31, .int .i64 (List.length y1.2 : Int)), (32, .int .i64 s1.1)] ∧ m.le m6 ∧ St m6 (.blk b3 (.cells #[.slice a6 (List.length s1.2.1) c6, .int .i64 s1.2.2] 64 (0, 0)) :: .blk b2 (.cells #[.slice a4 (List.length y2.1.1) c4, .int .i64 y2.1.2] 64 (0, 0)) :: .blk b1 (.cells #[.slice a2 (List.length y1.1.1) c2, .int .i64 y1.1.2] 26 (0, 0)) :: .room a4 (List.length y2.1.1) c4 111 4 :: .room a3 (List.length y1.2) c3 73 10 :: .room a6 (List.length s1.2.1) c6 111 4 :: own) w' ∧ RepS (cPair (cPair cStr cStr) (cPair (cInt .i64) (cPair (cInt .i64) (cPair (cInt .i64) (cPair (cPair (cInt .i64) (cPair (cInt .i64) (cInt .i64))) (cPair cBool (cSl (cPair (cPair (cInt .i64) (cPair cStr cStr)) (cInt .i64))))))))) m6 a3 c3 y1.2 ∧ RepS (cPair (cPair (cInt .i64) (cPair cStr cStr)) (cSl (cInt .i64))) m6 a6 c6 s1.2.1 ∧ RepS (cPair (cPair (cInt .i64) (cPair cStr cStr)) (cSl (cInt .i64))) m6 a4 c4 y2.1.1 ∧ RepS (cInt .i64) m6 a2 c2 y1.1.1) N ⟨(0, ([] : List ((Int × ByteArray × ByteArray) × List Int)), 0), none, 0, m3, hr, rfl, hm, st, r3, (RepS.nil _ _), r4, r2⟩ ?_)
  clear st hr
  rintro k1 _ w9 ⟨s1, a6, c6, m6, hL, rfl, hm, st, r3, r6, r4, r2⟩
  rcases k1 with _ | k1
  ·exact loopM_zero hL
  ·obtain ⟨qu1, hr, hSu1, hBu1⟩ := loopM_succ hL
   clear hL
   unfold testgatelaw18_IndexGrows_L1 at hr
   refine W_sr (WO_seg 1 [(33, .bool (decide (s1.1 < (List.length y1.2 : Int))))] kr kr ?_)
   refine WO_et rfl (W_seq ?_)
   refine W_cond (decide (s1.1 < (List.length y1.2 : Int))) kr ?_ ?_
   ·intro hc
    rw [if_pos hc] at hr
    refine W_skip ?_
    refine X_then ?_
    refine W_seq ?_
    refine W_block ?_
    refine W_sr ?_
    replace ⟨x1, hx4, hr⟩ := bindS hr
    refine WO_one rfl (One_index (d := 34) (t := 60) (e := 73) (x := (.tmp 30)) (y := (.tmp 32)) (cPair (cPair cStr cStr) (cPair (cInt .i64) (cPair (cInt .i64) (cPair (cInt .i64) (cPair (cPair (cInt .i64) (cPair (cInt .i64) (cInt .i64))) (cPair cBool (cSl (cPair (cPair (cInt .i64) (cPair cStr cStr)) (cInt .i64))))))))) kr rfl (ev (.slice a3 (List.length y1.2) c3)) (ev (.int .i64 s1.1)) kr r3 hx4 ?_)
    rintro b4 f1 cs1 ⟨_, _, rfl, ⟨_, _, rfl, rfl, rfl⟩, ⟨_, _, rfl, rfl, ⟨_, _, rfl, rfl, ⟨_, _, rfl, rfl, ⟨_, _, rfl, ⟨_, _, rfl, rfl, ⟨_, _, rfl, rfl, rfl⟩⟩, ⟨_, _, rfl, rfl, ⟨a7, c7, rfl, r7⟩⟩⟩⟩⟩⟩⟩ hq1
    refine WO_one rfl (One_load_row (d := 35) (t := 73) (x := (.tmp 34)) (.agg #[.string x1.1.1, .string x1.1.2, .int .i64 x1.2.1, .int .i64 x1.2.2.1, .int .i64 x1.2.2.2.1, .int .i64 x1.2.2.2.2.1.1, .int .i64 x1.2.2.2.2.1.2.1, .int .i64 x1.2.2.2.2.1.2.2, .bool x1.2.2.2.2.2.1, .slice a7 (List.length x1.2.2.2.2.2.2) c7]) kr rfl (ev (.pointer (some ⟨b4, f1, none⟩))) st hq1 kr ?_)
    refine WO_one rfl (One_alloc (d := 9) (e := 73) (.agg #[.string (⟨#[]⟩ : ByteArray), .string (⟨#[]⟩ : ByteArray), .int .i64 0, .int .i64 0, .int .i64 0, .int .i64 0, .int .i64 0, .int .i64 0, .bool false, .slice none 0 0]) kr rfl kr st ?_)
    clear st
    intro b5 w10 st
    refine WO_one rfl (One_store (t := 73) (x := (.tmp 9)) (y := (.tmp 35)) (v := .agg #[.string x1.1.1, .string x1.1.2, .int .i64 x1.2.1, .int .i64 x1.2.2.1, .int .i64 x1.2.2.2.1, .int .i64 x1.2.2.2.2.1.1, .int .i64 x1.2.2.2.2.1.2.1, .int .i64 x1.2.2.2.2.1.2.2, .bool x1.2.2.2.2.2.1, .slice a7 (List.length x1.2.2.2.2.2.2) c7]) (c' := #[.string x1.1.1, .string x1.1.2, .int .i64 x1.2.1, .int .i64 x1.2.2.1, .int .i64 x1.2.2.2.1, .int .i64 x1.2.2.2.2.1.1, .int .i64 x1.2.2.2.2.1.2.1, .int .i64 x1.2.2.2.2.1.2.2, .bool x1.2.2.2.2.2.1, .slice a7 (List.length x1.2.2.2.2.2.2) c7]) kr (ev (.pointer (some ⟨b5, 0, none⟩))) (ev (.agg #[.string x1.1.1, .string x1.1.2, .int .i64 x1.2.1, .int .i64 x1.2.2.1, .int .i64 x1.2.2.2.1, .int .i64 x1.2.2.2.2.1.1, .int .i64 x1.2.2.2.2.1.2.1, .int .i64 x1.2.2.2.2.1.2.2, .bool x1.2.2.2.2.2.1, .slice a7 (List.length x1.2.2.2.2.2.2) c7])) st kr kr ?_)
    clear st
    intro w11 st
    refine WO_et rfl (W_sr ?_)
    refine WO_one rfl (One_load_own (d := 37) (t := 64) (x := (.tmp 7)) (.agg #[.slice a6 (List.length s1.2.1) c6, .int .i64 s1.2.2]) kr rfl (ev (.pointer (some ⟨b3, 0, none⟩))) st.tail.head kr ?_)
    refine WO_one rfl (One_load_own (d := 38) (t := 73) (x := (.tmp 9)) (.agg #[.string x1.1.1, .string x1.1.2, .int .i64 x1.2.1, .int .i64 x1.2.2.1, .int .i64 x1.2.2.2.1, .int .i64 x1.2.2.2.2.1.1, .int .i64 x1.2.2.2.2.1.2.1, .int .i64 x1.2.2.2.2.1.2.2, .bool x1.2.2.2.2.2.1, .slice a7 (List.length x1.2.2.2.2.2.2) c7]) kr rfl (ev (.pointer (some ⟨b5, 0, none⟩))) st.head kr ?_)
    replace ⟨y4, hx5, hr⟩ := bindS hr
    refine WO_one rfl (One_fn 39 28 #[.agg #[.slice a6 (List.length s1.2.1) c6, .int .i64 s1.2.2], .agg #[.string x1.1.1, .string x1.1.2, .int .i64 x1.2.1, .int .i64 x1.2.2.1, .int .i64 x1.2.2.2.1, .int .i64 x1.2.2.2.2.1.1, .int .i64 x1.2.2.2.2.1.2.1, .int .i64 x1.2.2.2.2.1.2.2, .bool x1.2.2.2.2.2.1, .slice a7 (List.length x1.2.2.2.2.2.2) c7]] kr rfl ?_)
    refine (index_Add_ok st r6 r7 hx5).mono ?_
    clear st
    rintro _ w12 ⟨a8, c8, m7, rfl, hle5, st, r8⟩
    refine ⟨_, rfl, ?_⟩
    have hm := Mem.le_trans hm hle5
    have r3 := r3.mono hle5
    have r6 := r6.mono hle5
    have r7 := r7.mono hle5
    have r4 := r4.mono hle5
    have r2 := r2.mono hle5
    refine WO_seg 3 [(40, .agg #[.slice a8 (List.length y4.1.1) c8, .int .i64 y4.1.2]), (41, .int .i64 y4.2)] kr kr ?_
    refine WO_one rfl (One_alloc (d := 10) (e := 64) (.agg #[.slice none 0 0, .int .i64 0]) kr rfl kr st ?_)
    clear st
    intro b6 w13 st
    refine WO_one rfl (One_store (t := 64) (x := (.tmp 10)) (y := (.tmp 40)) (v := .agg #[.slice a8 (List.length y4.1.1) c8, .int .i64 y4.1.2]) (c' := #[.slice a8 (List.length y4.1.1) c8, .int .i64 y4.1.2]) kr (ev (.pointer (some ⟨b6, 0, none⟩))) (ev (.agg #[.slice a8 (List.length y4.1.1) c8, .int .i64 y4.1.2])) st kr kr ?_)
    clear st
    intro w14 st
    refine WO_seg 1 [(11, .int .i64 y4.2)] kr kr ?_
    refine WO_et rfl (W_seq ?_)
    refine W_sr (WO_seg 2 [(43, .bool (y4.2 != 0))] kr kr ?_)
    refine WO_et rfl (W_cond (y4.2 != 0) kr ?_ ?_)
    ·intro hc
     rw [if_pos hc] at hr
     refine W_sr (WO_seg 1 [(2, .bool false)] kr kr ?_)
     refine WO_end rfl ?_
     have st := st.front7
     have st := st.tail
     refine X_then ?_
     refine W_ret ?_
     refine X_then_ret ?_
     refine X_block_ret ?_
     refine X_then_ret ?_
     obtain rfl := Option.some.inj hr
     have ho := hBu1 _ rfl
     subst ho
     have hr := hrKu1
     dsimp only at hr
     refine X_then_ret ?_
     refine X_block_ret ?_
     refine X_then_ret ?_
     obtain rfl := Option.some.inj hr
     refine X_ret [.tmp 2] [.bool false] rfl (ResAll.cons (ResAt.tmp kr) ResAll.nil) ?_
     have st := st.tail
     have st := st.tail
     have st := st.tail
     have st := st.tail
     have st := st.tail
     have st := st.tail
     have st := st.tail
     have st := st.tail
     exact ⟨m7, rfl, hm, st⟩
    ·intro hc
     rw [if_neg (not_true hc)] at hr
     refine W_skip ?_
     refine X_then ?_
     refine W_region ?_
     refine WO_one rfl (One_load_own (d := 44) (t := 64) (x := (.tmp 10)) (.agg #[.slice a8 (List.length y4.1.1) c8, .int .i64 y4.1.2]) kr rfl (ev (.pointer (some ⟨b6, 0, none⟩))) st.head kr ?_)
     have st := st.front3
     refine WO_one rfl (One_store (t := 64) (x := (.tmp 7)) (y := (.tmp 44)) (v := .agg #[.slice a8 (List.length y4.1.1) c8, .int .i64 y4.1.2]) (c' := #[.slice a8 (List.length y4.1.1) c8, .int .i64 y4.1.2]) kr (ev (.pointer (some ⟨b3, 0, none⟩))) (ev (.agg #[.slice a8 (List.length y4.1.1) c8, .int .i64 y4.1.2])) st kr kr ?_)
     clear st
     intro w15 st
     refine WO_end rfl ?_
     have st := st.front8
     have st := st.tail
     refine X_block ?_
     refine X_then ?_
     refine W_region ?_
     refine WO_seg 2 [(32, .int .i64 (IntKind.wrap .i64 (s1.1 + 1)))] kr kr ?_
     refine WO_end rfl ?_
     obtain rfl := Option.some.inj hr
     have hL := hSu1 _ rfl
     have st := st.front1
     have st := st.tail
     have st := st.front2
     have st := st.tail
     have st := st.front1.front5.front5.front5.front5.front5
     exact X_env _ kr (X_round k1 (Nat.lt_succ_self _) ⟨(IntKind.wrap .i64 (s1.1 + 1), y4.1.1, y4.1.2), a8, c8, m7, hL, rfl, hm, st, r3, r8, r4, r2⟩)
   ·intro hc
    rw [if_neg (not_true hc)] at hr
    refine W_exit ?_
    refine X_then_exit ?_
    obtain rfl := Option.some.inj hr
    have ho := hBu1 _ rfl
    have st := st.front5.front5.front5.front5.front5.front5
    refine X_then_exit ?_
    exact X_env _ kr (K0_u1 _ _ ⟨(s1.2.1, s1.2.2), a6, c6, m6, ho, rfl, hm, st, r3, r6, r4, r2⟩)
end Go.Proofs.YtgggihpbhmbjaaaDoor
