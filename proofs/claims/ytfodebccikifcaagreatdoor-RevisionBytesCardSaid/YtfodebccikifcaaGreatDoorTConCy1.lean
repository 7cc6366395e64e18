/- MADE BY gen.py: plain functions and the proofs that the Go functions compute them. No condition but those of each theorem. -/
import Derived.Test.YtfodebccikifcaaGreatDoorProg
import Derived.Test.YtfodebccikifcaaGreatDoorInsy1
import Derived.Test.YtfodebccikifcaaGreatDoorTConBy1
namespace Go.Proofs.YtfodebccikifcaaGreatDoor
open Go Go.Dc
def testgateref04_Path_L1 (N : Nat) (p0 : ByteArray) (s1 : Int × Int × Int) : Option ((Int × Int × Int) ⊕ ((Int × Int) ⊕ (Bool))) :=
 if (decide (s1.2.2 < (ByteArray.size p0 : Int))) = true then (((idxB p0 s1.2.2).bind fun x1 => if ((x1.toNat : Int) == 47) = true then (if (s1.2.1 == 0) = true then ((some (.inr (.inr (false)))).map .inr) else (some (.inl (IntKind.wrap .i64 (s1.1 + 1), 0)))) else (((idxB p0 s1.2.2).bind fun x2 => (testgateref04_inner N (x2.toNat : Int)).bind fun y1 => if y1 = true then (some true) else ((idxB p0 s1.2.2).bind fun x3 => some ((x3.toNat : Int) == 46)) : Option (Bool)).bind fun o3 => if o3 = true then (some (.inl (s1.1, IntKind.wrap .i64 (s1.2.1 + 1)))) else ((some (.inr (.inr (false)))).map .inr)) : Option ((Int × Int) ⊕ ((Int × Int × Int) ⊕ ((Int × Int) ⊕ (Bool))))).bind fun qu2 => (match qu2 with | .inl o2 => if (decide (o2.2 > 24)) = true then (some (.inr (.inr (false)))) else (some (.inl (o2.1, o2.2, IntKind.wrap .i64 (s1.2.2 + 1)))) | .inr z => some z)) else (some (.inr (.inl (s1.1, s1.2.1))))
def testgateref04_Path (N : Nat) (p0 : ByteArray) : Option (Bool) :=
 if (decide ((ByteArray.size p0 : Int) > 80)) = true then (some false) else ((loopM (testgateref04_Path_L1 N p0) N (1, 0, 0)).bind fun out1 => (match out1 with | .inl o1 => (if (decide (o1.2 > 0)) = true then (some (decide (o1.1 ≤ 8))) else (some false) : Option (Bool)).bind fun o4 => some o4 | .inr (z) => some z))
set_option maxHeartbeats 4000000 in
set_option maxRecDepth 100000 in
theorem testgateref04_Path_ok {N : Nat} {m : Mem} {own : List Piece} {w : World} {p0 : ByteArray} {r : Bool} (st : St m (own) w) (hr : testgateref04_Path N p0 = some r) : Calls Tryz.prog 40 #[.string p0] w fun e w' => ∃ (m' : Mem), e = .returned (.bool r) ∧ m.le m' ∧ St m' (own) w' := by
 unfold testgateref04_Path at hr
 have hm := m.le_refl
 refine W_calls Tryz.func40 rfl Tryz.ntmps40 [(0, .string p0)] kr rfl ?_
 refine W_sr (WO_seg 1 [] kr kr ?_)
 refine WO_et rfl (W_sr ?_)
 refine WO_seg 2 [(3, .int .i64 1), (4, .int .i64 0)] kr kr ?_
 refine WO_et rfl (W_seq ?_)
 refine W_sr (WO_seg 3 [(8, .bool (decide ((ByteArray.size p0 : Int) > 80)))] kr kr ?_)
 refine WO_et rfl (W_cond (decide ((ByteArray.size p0 : Int) > 80)) kr ?_ ?_)
 ·intro hc
  rw [if_pos hc] at hr
  refine W_sr (WO_seg 1 [(2, .bool false)] kr kr ?_)
  refine WO_et rfl (W_ret ?_)
  refine X_then_ret ?_
  obtain rfl := Option.some.inj hr
  refine X_ret [.tmp 2] [.bool false] rfl (ResAll.cons (ResAt.tmp kr) ResAll.nil) ?_
  exact ⟨m, rfl, hm, st⟩
 ·intro hc
  rw [if_neg (not_true hc)] at hr
  refine W_skip ?_
  refine X_then ?_
  refine W_seq ?_
  refine W_sr (WO_seg 1 [(5, .int .i64 0)] kr kr ?_)
  refine WO_et rfl (W_block ?_)
  replace ⟨out1, hr, hrKu1⟩ := bindS hr
  refine W_cut (.exit 0) (fun L' w' => ∃ (o1 : Int × Int) (m1 : Mem), (.inl o1) = out1 ∧ L' = [(3, .int .i64 o1.1), (4, .int .i64 o1.2)] ∧ m.le m1 ∧ St m1 (own) w') ?_ ?_
  ·clear hr st
   rintro _ w1 ⟨o1, m1, rfl, rfl, hm, st⟩
   have hr := hrKu1
   clear hrKu1
   dsimp only at hr
   refine X_block_eq ?_
   refine X_then ?_
   refine W_sr ?_
   replace ⟨o4, hr, hrK⟩ := bindS hr
   refine WO_cut (j := 7) (fun L' w' => ∃ (m6 : Mem), L' = [(2, .bool o4)] ∧ m.le m6 ∧ St m6 (own) w') ?_ ?_
   ·clear hr st
    have hr := hrK
    clear hrK
    rintro _ w6 ⟨m6, rfl, hm, st⟩
    refine WO_et rfl (W_ret ?_)
    obtain rfl := Option.some.inj hr
    refine X_ret [.tmp 2] [.bool o4] rfl (ResAll.cons (ResAt.tmp kr) ResAll.nil) ?_
    exact ⟨m6, rfl, hm, st⟩
   ·intro K
    clear hrK
    refine WO_seg 3 [(41, .bool (decide (o1.2 > 0)))] kr kr ?_
    rcases bcases (decide (o1.2 > 0)) with hc | hc
    ·rw [if_pos hc] at hr
     refine WO_fact (t := 41) (b := true) (decide (o1.2 > 0)) kr hc ?_
     refine WO_seg 4 [(2, .bool (decide (o1.1 ≤ 8)))] kr kr ?_
     obtain rfl := Option.some.inj hr
     exact WO_env _ kr (K _ _ ⟨m1, rfl, hm, st⟩)
    ·rw [if_neg (not_true hc)] at hr
     refine WO_fact (t := 41) (b := false) (decide (o1.2 > 0)) kr hc ?_
     refine WO_seg 4 [(2, .bool false)] kr kr ?_
     obtain rfl := Option.some.inj hr
     exact WO_env _ kr (K _ _ ⟨m1, rfl, hm, st⟩)
  intro K0_u1
  refine W_env _ kr (W_loop (fun k1 L' w' => ∃ (s1 : Int × Int × Int) (m2 : Mem), loopM (testgateref04_Path_L1 N p0) k1 s1 = some out1 ∧ L' = [(0, .string p0), (3, .int .i64 s1.1), (4, .int .i64 s1.2.1), (5, .int .i64 s1.2.2)] ∧ m.le m2 ∧ St m2 (own) w') N ⟨(1, 0, 0), m, hr, rfl, hm, st⟩ ?_)
  clear st hr
  rintro k1 _ w2 ⟨s1, m2, hL, rfl, hm, st⟩
  rcases k1 with _ | k1
  ·exact loopM_zero hL
  ·obtain ⟨qu1, hr, hSu1, hBu1⟩ := loopM_succ hL
   clear hL
   unfold testgateref04_Path_L1 at hr
   refine W_seq ?_
   refine W_sr (WO_seg 4 [(12, .bool (decide (s1.2.2 < (ByteArray.size p0 : Int))))] kr kr ?_)
   refine WO_et rfl (W_cond (decide (s1.2.2 < (ByteArray.size p0 : Int))) kr ?_ ?_)
   ·intro hc
    rw [if_pos hc] at hr
    refine W_skip ?_
    refine X_then ?_
    refine W_seq ?_
    refine W_block ?_
    refine W_seq ?_
    replace ⟨qu2, hr, hrKu2⟩ := bindS hr
    refine W_cut .normal (fun L' w' => ∃ (o2 : Int × Int) (m3 : Mem), (.inl o2 : (Int × Int) ⊕ ((Int × Int × Int) ⊕ ((Int × Int) ⊕ (Bool)))) = qu2 ∧ L' = [(0, .string p0), (3, .int .i64 o2.1), (4, .int .i64 o2.2), (5, .int .i64 s1.2.2)] ∧ m.le m3 ∧ St m3 (own) w') ?_ ?_
    ·clear hr st
     rintro _ w3 ⟨o2, m3, rfl, rfl, hm, st⟩
     have hr := hrKu2
     clear hrKu2
     dsimp only at hr
     refine X_then ?_
     refine W_sr (WO_seg 2 [(38, .bool (decide (o2.2 > 24)))] kr kr ?_)
     refine WO_et rfl (W_cond (decide (o2.2 > 24)) kr ?_ ?_)
     ·intro hc
      rw [if_pos hc] at hr
      refine W_sr (WO_seg 1 [(2, .bool false)] kr kr ?_)
      refine WO_et rfl (W_ret ?_)
      refine X_block_ret ?_
      refine X_then_ret ?_
      obtain rfl := Option.some.inj hr
      have ho := hBu1 _ rfl
      subst ho
      have hr := hrKu1
      dsimp only at hr
      refine X_then_ret ?_
      refine X_block_ret ?_
      refine X_then_ret ?_
      obtain rfl := Option.some.inj hr
      refine X_ret [.tmp 2] [.bool false] rfl (ResAll.cons (ResAt.tmp kr) ResAll.nil) ?_
      exact ⟨m3, rfl, hm, st⟩
     ·intro hc
      rw [if_neg (not_true hc)] at hr
      refine W_skip ?_
      refine X_block ?_
      refine X_then ?_
      refine W_region ?_
      refine WO_seg 3 [(5, .int .i64 (IntKind.wrap .i64 (s1.2.2 + 1)))] kr kr ?_
      refine WO_end rfl ?_
      obtain rfl := Option.some.inj hr
      have hL := hSu1 _ rfl
      exact X_env _ kr (X_round k1 (Nat.lt_succ_self _) ⟨(o2.1, o2.2, IntKind.wrap .i64 (s1.2.2 + 1)), m3, hL, rfl, hm, st⟩)
    ·intro Ku2
     refine W_block ?_
     refine W_sr (WO_seg 2 [(16, .string p0), (17, .int .i64 s1.2.2)] kr kr ?_)
     replace ⟨x1, hx1, hr⟩ := bindS hr
     refine WO_one rfl (One_strIndex (d := 18) (t := 9) (x := (.tmp 16)) (y := (.tmp 17)) kr rfl (ev (.string p0)) (ev (.int .i64 s1.2.2)) kr hx1 ?_)
     refine WO_seg 2 [(15, .bool ((x1.toNat : Int) == 47))] kr kr ?_
     refine WO_et rfl (W_cond ((x1.toNat : Int) == 47) kr ?_ ?_)
     ·intro hc
      rw [if_pos hc] at hr
      refine W_seq ?_
      refine W_sr (WO_seg 2 [(21, .bool (s1.2.1 == 0))] kr kr ?_)
      refine WO_et rfl (W_cond (s1.2.1 == 0) kr ?_ ?_)
      ·intro hc
       rw [if_pos hc] at hr
       refine W_sr (WO_seg 1 [(2, .bool false)] kr kr ?_)
       refine WO_et rfl (W_ret ?_)
       refine X_then_ret ?_
       refine X_block_ret ?_
       replace ⟨zu2, hr, hzu2⟩ := Option.map_eq_some_iff.1 hr
       subst hzu2
       have hrKu2 := Option.some.inj hrKu2
       subst hrKu2
       refine X_then_ret ?_
       refine X_block_ret ?_
       refine X_then_ret ?_
       obtain rfl := Option.some.inj hr
       have ho := hBu1 _ rfl
       subst ho
       have hr := hrKu1
       dsimp only at hr
       refine X_then_ret ?_
       refine X_block_ret ?_
       refine X_then_ret ?_
       obtain rfl := Option.some.inj hr
       refine X_ret [.tmp 2] [.bool false] rfl (ResAll.cons (ResAt.tmp kr) ResAll.nil) ?_
       exact ⟨m2, rfl, hm, st⟩
      ·intro hc
       rw [if_neg (not_true hc)] at hr
       refine W_skip ?_
       refine X_then ?_
       refine W_region ?_
       refine WO_seg 4 [(3, .int .i64 (IntKind.wrap .i64 (s1.1 + 1))), (4, .int .i64 0)] kr kr ?_
       refine WO_end rfl ?_
       refine X_block ?_
       have hqu2 := Option.some.inj hr
       exact X_env _ kr (Ku2 _ _ ⟨(IntKind.wrap .i64 (s1.1 + 1), 0), m2, hqu2, rfl, hm, st⟩)
     ·intro hc
      rw [if_neg (not_true hc)] at hr
      refine W_sr ?_
      replace ⟨o3, hr, hrK⟩ := bindS hr
      refine WO_cut (j := 11) (fun L' w' => ∃ (m4 : Mem), L' = [(0, .string p0), (3, .int .i64 s1.1), (4, .int .i64 s1.2.1), (5, .int .i64 s1.2.2), (24, .bool o3)] ∧ m.le m4 ∧ St m4 (own) w') ?_ ?_
      ·clear hr st
       have hr := hrK
       clear hrK
       rintro _ w4 ⟨m4, rfl, hm, st⟩
       refine WO_et rfl (W_cond o3 kr ?_ ?_)
       ·intro hc
        rw [if_pos hc] at hr
        refine W_region ?_
        refine WO_seg 3 [(4, .int .i64 (IntKind.wrap .i64 (s1.2.1 + 1)))] kr kr ?_
        refine WO_end rfl ?_
        refine X_block ?_
        have hqu2 := Option.some.inj hr
        exact X_env _ kr (Ku2 _ _ ⟨(s1.1, IntKind.wrap .i64 (s1.2.1 + 1)), m4, hqu2, rfl, hm, st⟩)
       ·intro hc
        rw [if_neg (not_true hc)] at hr
        refine W_sr (WO_seg 1 [(2, .bool false)] kr kr ?_)
        refine WO_et rfl (W_ret ?_)
        refine X_block_ret ?_
        replace ⟨zu2, hr, hzu2⟩ := Option.map_eq_some_iff.1 hr
        subst hzu2
        have hrKu2 := Option.some.inj hrKu2
        subst hrKu2
        refine X_then_ret ?_
        refine X_block_ret ?_
        refine X_then_ret ?_
        obtain rfl := Option.some.inj hr
        have ho := hBu1 _ rfl
        subst ho
        have hr := hrKu1
        dsimp only at hr
        refine X_then_ret ?_
        refine X_block_ret ?_
        refine X_then_ret ?_
        obtain rfl := Option.some.inj hr
        refine X_ret [.tmp 2] [.bool false] rfl (ResAll.cons (ResAt.tmp kr) ResAll.nil) ?_
        exact ⟨m4, rfl, hm, st⟩
      ·intro K
       clear hrK
       refine WO_seg 2 [(25, .string p0), (26, .int .i64 s1.2.2)] kr kr ?_
       replace ⟨x2, hx2, hr⟩ := bindS hr
       refine WO_one rfl (One_strIndex (d := 27) (t := 9) (x := (.tmp 25)) (y := (.tmp 26)) kr rfl (ev (.string p0)) (ev (.int .i64 s1.2.2)) kr hx2 ?_)
       replace ⟨y1, hx3, hr⟩ := bindS hr
       refine WO_one rfl (One_fn 28 60 #[.int .u8 (x2.toNat : Int)] kr rfl ?_)
       refine (testgateref04_inner_ok st hx3).mono ?_
       clear st
       rintro _ w5 ⟨m5, rfl, hle1, st⟩
       refine ⟨_, rfl, ?_⟩
       have hm := Mem.le_trans hm hle1
       refine WO_seg 1 [(29, .bool y1)] kr kr ?_
       rcases bcases y1 with hc | hc
       ·rw [if_pos hc] at hr
        refine WO_fact (t := 29) (b := true) y1 kr hc ?_
        refine WO_seg 6 [(24, .bool true)] kr kr ?_
        obtain rfl := Option.some.inj hr
        exact WO_env _ kr (K _ _ ⟨m5, rfl, hm, st⟩)
       ·rw [if_neg (not_true hc)] at hr
        refine WO_fact (t := 29) (b := false) y1 kr hc ?_
        refine WO_seg 2 [(30, .string p0), (31, .int .i64 s1.2.2)] kr kr ?_
        replace ⟨x3, hx4, hr⟩ := bindS hr
        refine WO_one rfl (One_strIndex (d := 32) (t := 9) (x := (.tmp 30)) (y := (.tmp 31)) kr rfl (ev (.string p0)) (ev (.int .i64 s1.2.2)) kr hx4 ?_)
        refine WO_seg 3 [(24, .bool ((x3.toNat : Int) == 46))] kr kr ?_
        obtain rfl := Option.some.inj hr
        exact WO_env _ kr (K _ _ ⟨m5, rfl, hm, st⟩)
   ·intro hc
    rw [if_neg (not_true hc)] at hr
    refine W_exit ?_
    refine X_then_exit ?_
    obtain rfl := Option.some.inj hr
    have ho := hBu1 _ rfl
    refine X_then_exit ?_
    exact X_env _ kr (K0_u1 _ _ ⟨(s1.1, s1.2.1), m2, ho, rfl, hm, st⟩)
def testgateref07_Check_L1 (N : Nat) (p0 : (List (ByteArray × ByteArray))) (s1 : Int) : Option ((Int) ⊕ ((Unit) ⊕ (Int))) :=
 if (decide (s1 < (List.length p0 : Int))) = true then ((idx p0 s1).bind fun x1 => (testgateref04_Path N x1.1).bind fun y1 => if (!y1) = true then (some (.inr (.inr (6)))) else ((if (decide (s1 > 0)) = true then ((idx p0 (IntKind.wrap .i64 (s1 - 1))).bind fun x2 => some (x1.1.toList == x2.1.toList)) else (some false) : Option (Bool)).bind fun o2 => if o2 = true then (some (.inr (.inr (10)))) else ((if (decide (s1 > 0)) = true then ((idx p0 (IntKind.wrap .i64 (s1 - 1))).bind fun x3 => some (Op.bytesLess x1.1.toList x3.1.toList)) else (some false) : Option (Bool)).bind fun o3 => if o3 = true then (some (.inr (.inr (6)))) else (if (decide ((ByteArray.size x1.2 : Int) > 16384)) = true then (some (.inr (.inr (2)))) else (some (.inl (IntKind.wrap .i64 (s1 + 1)))))))) else (some (.inr (.inl ())))
def testgateref07_Check (N : Nat) (p0 : (List (ByteArray × ByteArray))) : Option (Int) :=
 if (decide ((List.length p0 : Int) > 64)) = true then (some 2) else ((loopM (testgateref07_Check_L1 N p0) N 0).bind fun out1 => (match out1 with | .inl o1 => some 0 | .inr (z) => some z))
set_option maxHeartbeats 4000000 in
set_option maxRecDepth 100000 in
theorem testgateref07_Check_ok {N : Nat} {m : Mem} {own : List Piece} {w : World} {p0 : (List (ByteArray × ByteArray))} {a1 : Option Addr} {c1 : Nat} {r : Int} (st : St m (own) w) (r1 : RepS (cPair cStr cStr) m a1 c1 p0) (hr : testgateref07_Check N p0 = some r) : Calls Tryz.prog 21 #[.agg #[.slice a1 (List.length p0) c1]] w fun e w' => ∃ (m' : Mem), e = .returned (.int .i64 r) ∧ m.le m' ∧ St m' (own) w' := by
 unfold testgateref07_Check at hr
 have hm := m.le_refl
 refine W_calls Tryz.func21 rfl Tryz.ntmps21 [(0, .agg #[.slice a1 (List.length p0) c1])] kr rfl ?_
 refine W_sr (WO_one rfl (One_box (d := 1) (e := 29) (x := (.tmp 0)) (.agg #[.slice a1 (List.length p0) c1]) kr rfl kr st ?_))
 clear st
 intro b1 m1 w1 hle1 st hb1
 have hm := Mem.le_trans hm hle1
 have r1 := r1.mono hle1
 refine WO_seg 1 [] kr kr ?_
 refine WO_et rfl (W_seq ?_)
 refine W_sr (WO_seg 1 [(5, .pointer (some ⟨b1, 0, none⟩))] kr kr ?_)
 refine WO_one rfl (One_load_row (d := 6) (t := 27) (x := (.tmp 5)) (.slice a1 (List.length p0) c1) kr rfl (ev (.pointer (some ⟨b1, 0, none⟩))) st hb1 kr ?_)
 refine WO_seg 2 [(8, .bool (decide ((List.length p0 : Int) > 64)))] kr kr ?_
 refine WO_et rfl (W_cond (decide ((List.length p0 : Int) > 64)) kr ?_ ?_)
 ·intro hc
  rw [if_pos hc] at hr
  refine W_sr (WO_seg 1 [(2, .int .i64 2)] kr kr ?_)
  refine WO_et rfl (W_ret ?_)
  refine X_then_ret ?_
  obtain rfl := Option.some.inj hr
  refine X_ret [.tmp 2] [.int .i64 2] rfl (ResAll.cons (ResAt.tmp kr) ResAll.nil) ?_
  exact ⟨m1, rfl, hm, st⟩
 ·intro hc
  rw [if_neg (not_true hc)] at hr
  refine W_skip ?_
  refine X_then ?_
  refine W_seq ?_
  refine W_sr (WO_seg 1 [(9, .pointer (some ⟨b1, 0, none⟩))] kr kr ?_)
  refine WO_one rfl (One_load_row (d := 10) (t := 27) (x := (.tmp 9)) (.slice a1 (List.length p0) c1) kr rfl (ev (.pointer (some ⟨b1, 0, none⟩))) st hb1 kr ?_)
  refine WO_seg 2 [(11, .int .i64 (List.length p0 : Int)), (12, .int .i64 0)] kr kr ?_
  refine WO_et rfl (W_block ?_)
  replace ⟨out1, hr, hrKu1⟩ := bindS hr
  refine W_cut (.exit 0) (fun L' w' => ∃ (o1 : Unit) (m2 : Mem), (.inl o1) = out1 ∧ L' = [] ∧ m.le m2 ∧ St m2 (own) w') ?_ ?_
  ·clear hr st
   rintro _ w2 ⟨o1, m2, rfl, rfl, hm, st⟩
   have hr := hrKu1
   clear hrKu1
   dsimp only at hr
   refine X_block_eq ?_
   refine X_then ?_
   refine W_sr (WO_seg 1 [(2, .int .i64 0)] kr kr ?_)
   refine WO_et rfl (W_ret ?_)
   obtain rfl := Option.some.inj hr
   refine X_ret [.tmp 2] [.int .i64 0] rfl (ResAll.cons (ResAt.tmp kr) ResAll.nil) ?_
   exact ⟨m2, rfl, hm, st⟩
  intro K0_u1
  refine W_env _ kr (W_loop (fun k1 L' w' => ∃ (s1 : Int) (m3 : Mem), loopM (testgateref07_Check_L1 N p0) k1 s1 = some out1 ∧ L' = [(1, .pointer (some ⟨b1, 0, none⟩)), (10, .slice a1 (List.length p0) c1), (11, .int .i64 (List.length p0 : Int)), (12, .int .i64 s1)] ∧ m.le m3 ∧ St m3 (own) w' ∧ MRow m3 b1 0 [.slice a1 (List.length p0) c1] ∧ RepS (cPair cStr cStr) m3 a1 c1 p0) N ⟨0, m1, hr, rfl, hm, st, hb1, r1⟩ ?_)
  clear st hr
  rintro k1 _ w3 ⟨s1, m3, hL, rfl, hm, st, hb1, r1⟩
  rcases k1 with _ | k1
  ·exact loopM_zero hL
  ·obtain ⟨qu1, hr, hSu1, hBu1⟩ := loopM_succ hL
   clear hL
   unfold testgateref07_Check_L1 at hr
   refine W_sr (WO_seg 1 [(13, .bool (decide (s1 < (List.length p0 : Int))))] kr kr ?_)
   refine WO_et rfl (W_seq ?_)
   refine W_cond (decide (s1 < (List.length p0 : Int))) kr ?_ ?_
   ·intro hc
    rw [if_pos hc] at hr
    refine W_skip ?_
    refine X_then ?_
    refine W_seq ?_
    refine W_block ?_
    refine W_sr (WO_seg 1 [(14, .int .i64 s1)] kr kr ?_)
    replace ⟨x1, hx1, hr⟩ := bindS hr
    refine WO_one rfl (One_index (d := 15) (t := 27) (e := 46) (x := (.tmp 10)) (y := (.tmp 12)) (cPair cStr cStr) kr rfl (ev (.slice a1 (List.length p0) c1)) (ev (.int .i64 s1)) kr r1 hx1 ?_)
    rintro b2 f1 cs1 ⟨_, _, rfl, rfl, rfl⟩ hq1
    refine WO_one rfl (One_load_row (d := 16) (t := 46) (x := (.tmp 15)) (.agg #[.string x1.1, .string x1.2]) kr rfl (ev (.pointer (some ⟨b2, f1, none⟩))) st hq1 kr ?_)
    refine WO_one rfl (One_alloc (d := 4) (e := 46) (.agg #[.string (⟨#[]⟩ : ByteArray), .string (⟨#[]⟩ : ByteArray)]) kr rfl kr st ?_)
    clear st
    intro b3 w4 st
    refine WO_seg 1 [(3, .int .i64 s1)] kr kr ?_
    refine WO_one rfl (One_store (t := 46) (x := (.tmp 4)) (y := (.tmp 16)) (v := .agg #[.string x1.1, .string x1.2]) (c' := #[.string x1.1, .string x1.2]) kr (ev (.pointer (some ⟨b3, 0, none⟩))) (ev (.agg #[.string x1.1, .string x1.2])) st kr kr ?_)
    clear st
    intro w5 st
    refine WO_et rfl (W_seq ?_)
    refine W_sr (WO_seg 1 [(17, .pointer (some ⟨b3, 0, none⟩))] kr kr ?_)
    refine WO_one rfl (One_load_own (d := 18) (t := 9) (x := (.tmp 17)) (.string x1.1) kr rfl (ev (.pointer (some ⟨b3, 0, none⟩))) st.head kr ?_)
    replace ⟨y1, hx2, hr⟩ := bindS hr
    refine WO_one rfl (One_fn 19 40 #[.string x1.1] kr rfl ?_)
    refine (testgateref04_Path_ok st hx2).mono ?_
    clear st
    rintro _ w6 ⟨m4, rfl, hle2, st⟩
    refine ⟨_, rfl, ?_⟩
    have hm := Mem.le_trans hm hle2
    have hb1 := hb1.mono hle2
    have r1 := r1.mono hle2
    refine WO_seg 1 [(20, .bool (!y1))] kr kr ?_
    refine WO_et rfl (W_cond (!y1) kr ?_ ?_)
    ·intro hc
     rw [if_pos hc] at hr
     refine W_sr (WO_seg 1 [(2, .int .i64 6)] kr kr ?_)
     refine WO_et rfl (W_ret ?_)
     refine X_then_ret ?_
     refine X_block_ret ?_
     refine X_then_ret ?_
     obtain rfl := Option.some.inj hr
     have ho := hBu1 _ rfl
     subst ho
     have hr := hrKu1
     dsimp only at hr
     refine X_then_ret ?_
     refine X_block_ret ?_
     refine X_then_ret ?_
     obtain rfl := Option.some.inj hr
     refine X_ret [.tmp 2] [.int .i64 6] rfl (ResAll.cons (ResAt.tmp kr) ResAll.nil) ?_
     have st := st.tail
     exact ⟨m4, rfl, hm, st⟩
    ·intro hc
     rw [if_neg (not_true hc)] at hr
     refine W_skip ?_
     refine X_then ?_
     refine W_seq ?_
     refine W_seq ?_
     replace ⟨o2, hr, hrK⟩ := bindS hr
     refine W_cut .normal (fun L' w' => ∃ (m5 : Mem), L' = [(1, .pointer (some ⟨b1, 0, none⟩)), (3, .int .i64 s1), (4, .pointer (some ⟨b3, 0, none⟩)), (10, .slice a1 (List.length p0) c1), (11, .int .i64 (List.length p0 : Int)), (12, .int .i64 s1), (34, .bool o2)] ∧ m.le m5 ∧ St m5 (.blk b3 (.cells #[.string x1.1, .string x1.2] 46 (0, 0)) :: own) w' ∧ MRow m5 b1 0 [.slice a1 (List.length p0) c1] ∧ RepS (cPair cStr cStr) m5 a1 c1 p0) ?_ ?_
     ·clear hr st
      have hr := hrK
      clear hrK
      rintro _ w7 ⟨m5, rfl, hm, st, hb1, r1⟩
      refine X_then ?_
      refine W_cond o2 kr ?_ ?_
      ·intro hc
       rw [if_pos hc] at hr
       refine W_sr (WO_seg 1 [(2, .int .i64 10)] kr kr ?_)
       refine WO_et rfl (W_ret ?_)
       refine X_then_ret ?_
       refine X_block_ret ?_
       refine X_then_ret ?_
       obtain rfl := Option.some.inj hr
       have ho := hBu1 _ rfl
       subst ho
       have hr := hrKu1
       dsimp only at hr
       refine X_then_ret ?_
       refine X_block_ret ?_
       refine X_then_ret ?_
       obtain rfl := Option.some.inj hr
       refine X_ret [.tmp 2] [.int .i64 10] rfl (ResAll.cons (ResAt.tmp kr) ResAll.nil) ?_
       have st := st.tail
       exact ⟨m5, rfl, hm, st⟩
      ·intro hc
       rw [if_neg (not_true hc)] at hr
       refine W_skip ?_
       refine X_then ?_
       refine W_seq ?_
       refine W_seq ?_
       replace ⟨o3, hr, hrK⟩ := bindS hr
       refine W_cut .normal (fun L' w' => ∃ (m6 : Mem), L' = [(1, .pointer (some ⟨b1, 0, none⟩)), (4, .pointer (some ⟨b3, 0, none⟩)), (10, .slice a1 (List.length p0) c1), (11, .int .i64 (List.length p0 : Int)), (12, .int .i64 s1), (48, .bool o3)] ∧ m.le m6 ∧ St m6 (.blk b3 (.cells #[.string x1.1, .string x1.2] 46 (0, 0)) :: own) w' ∧ MRow m6 b1 0 [.slice a1 (List.length p0) c1] ∧ RepS (cPair cStr cStr) m6 a1 c1 p0) ?_ ?_
       ·clear hr st
        have hr := hrK
        clear hrK
        rintro _ w9 ⟨m6, rfl, hm, st, hb1, r1⟩
        refine X_then ?_
        refine W_cond o3 kr ?_ ?_
        ·intro hc
         rw [if_pos hc] at hr
         refine W_sr (WO_seg 1 [(2, .int .i64 6)] kr kr ?_)
         refine WO_et rfl (W_ret ?_)
         refine X_then_ret ?_
         refine X_block_ret ?_
         refine X_then_ret ?_
         obtain rfl := Option.some.inj hr
         have ho := hBu1 _ rfl
         subst ho
         have hr := hrKu1
         dsimp only at hr
         refine X_then_ret ?_
         refine X_block_ret ?_
         refine X_then_ret ?_
         obtain rfl := Option.some.inj hr
         refine X_ret [.tmp 2] [.int .i64 6] rfl (ResAll.cons (ResAt.tmp kr) ResAll.nil) ?_
         have st := st.tail
         exact ⟨m6, rfl, hm, st⟩
        ·intro hc
         rw [if_neg (not_true hc)] at hr
         refine W_skip ?_
         refine X_then ?_
         refine W_sr (WO_seg 1 [(49, .pointer (some ⟨b3, 1, none⟩))] kr kr ?_)
         refine WO_one rfl (One_load_own (d := 50) (t := 9) (x := (.tmp 49)) (.string x1.2) kr rfl (ev (.pointer (some ⟨b3, 1, none⟩))) st.head kr ?_)
         refine WO_seg 2 [(52, .bool (decide ((ByteArray.size x1.2 : Int) > 16384)))] kr kr ?_
         refine WO_et rfl (W_cond (decide ((ByteArray.size x1.2 : Int) > 16384)) kr ?_ ?_)
         ·intro hc
          rw [if_pos hc] at hr
          refine W_sr (WO_seg 1 [(2, .int .i64 2)] kr kr ?_)
          refine WO_et rfl (W_ret ?_)
          refine X_block_ret ?_
          refine X_then_ret ?_
          obtain rfl := Option.some.inj hr
          have ho := hBu1 _ rfl
          subst ho
          have hr := hrKu1
          dsimp only at hr
          refine X_then_ret ?_
          refine X_block_ret ?_
          refine X_then_ret ?_
          obtain rfl := Option.some.inj hr
          refine X_ret [.tmp 2] [.int .i64 2] rfl (ResAll.cons (ResAt.tmp kr) ResAll.nil) ?_
          have st := st.tail
          exact ⟨m6, rfl, hm, st⟩
         ·intro hc
          rw [if_neg (not_true hc)] at hr
          refine W_skip ?_
          refine X_block ?_
          refine X_then ?_
          refine W_region ?_
          refine WO_seg 2 [(12, .int .i64 (IntKind.wrap .i64 (s1 + 1)))] kr kr ?_
          refine WO_end rfl ?_
          obtain rfl := Option.some.inj hr
          have hL := hSu1 _ rfl
          have st := st.tail
          exact X_env _ kr (X_round k1 (Nat.lt_succ_self _) ⟨IntKind.wrap .i64 (s1 + 1), m6, hL, rfl, hm, st, hb1, r1⟩)
       ·intro K
        clear hrK
        refine W_draw [(14, fun w' => Inv m5 w' ∧ Piece.holds m5 w' (.blk b3 (.cells #[.string x1.1, .string x1.2] 46 (0, 0))) ∧ True)] kr st ?_
        clear st
        intro w10 _ st
        have hmS2 := m5.le_refl
        refine ⟨⟨.inr ⟨Inv.anti st.inv hmS2, Piece.holds_anti st.head hmS2, trivial⟩, trivial⟩, ?_⟩
        refine WA_pure 0 35 (.int .i64 s1) kr rfl kr (.head _) (QP_then (QP_then (QP_block (QP_then (QP_then (QP_block (QP_then QP_body))))))) ?_
        refine WA_pure 1 36 (.bool (decide (s1 > 0))) kr rfl kr (.head _) (QP_then (QP_then (QP_block (QP_then (QP_then (QP_block (QP_then QP_body))))))) ?_
        refine WA_pure 2 37 (.bool (decide (s1 > 0))) kr rfl kr (.head _) (QP_then (QP_then (QP_block (QP_then (QP_then (QP_block (QP_then QP_body))))))) ?_
        rcases bcases (decide (s1 > 0)) with hc | hc
        ·rw [if_pos hc] at hr
         refine WA_fact (t := 37) (b := true) (decide (s1 > 0)) kr hc ?_
         refine WA_pure 3 38 (.pointer (some ⟨b3, 0, none⟩)) kr rfl kr (.head _) (QP_then (QP_then (QP_block (QP_then (QP_then (QP_block (QP_then QP_body))))))) ?_
         refine WA_load_own (t := 9) (x := (.tmp 38)) 4 39 (.string x1.1) kr rfl kr (.head _) (QP_then (QP_then (QP_block (QP_then (QP_then (QP_block (QP_then QP_body))))))) (fun _ h => h.2.1) (ev (.pointer (some ⟨b3, 0, none⟩))) kr ?_
         refine WA_pure 5 40 (.pointer (some ⟨b1, 0, none⟩)) kr rfl kr (.head _) (QP_then (QP_then (QP_block (QP_then (QP_then (QP_block (QP_then QP_body))))))) ?_
         refine WA_load_row (t := 27) (x := (.tmp 40)) 6 41 (.slice a1 (List.length p0) c1) kr rfl kr (.head _) (QP_then (QP_then (QP_block (QP_then (QP_then (QP_block (QP_then QP_body))))))) (fun _ h => h.1) (ev (.pointer (some ⟨b1, 0, none⟩))) hb1 kr ?_
         refine WA_pure 7 42 (.int .i64 s1) kr rfl kr (.head _) (QP_then (QP_then (QP_block (QP_then (QP_then (QP_block (QP_then QP_body))))))) ?_
         refine WA_pure 8 43 (.int .i64 (IntKind.wrap .i64 (s1 - 1))) kr rfl kr (.head _) (QP_then (QP_then (QP_block (QP_then (QP_then (QP_block (QP_then QP_body))))))) ?_
         replace ⟨x3, hx4, hr⟩ := bindS hr
         refine WA_index (t := 27) (e := 46) (x := (.tmp 41)) (y := (.tmp 43)) 9 44 (cPair cStr cStr) kr rfl kr (.head _) (QP_then (QP_then (QP_block (QP_then (QP_then (QP_block (QP_then QP_body))))))) (ev (.slice a1 (List.length p0) c1)) (ev (.int .i64 (IntKind.wrap .i64 (s1 - 1)))) kr r1 hx4 ?_
         rintro b5 f3 cs3 ⟨_, _, rfl, rfl, rfl⟩ hq3
         refine WA_pure 10 45 (.pointer (some ⟨b5, f3, none⟩)) kr rfl kr (.head _) (QP_then (QP_then (QP_block (QP_then (QP_then (QP_block (QP_then QP_body))))))) ?_
         refine WA_load_row (t := 9) (x := (.tmp 45)) 11 46 (.string x3.1) kr rfl kr (.head _) (QP_then (QP_then (QP_block (QP_then (QP_then (QP_block (QP_then QP_body))))))) (fun _ h => h.1) (ev (.pointer (some ⟨b5, f3, none⟩))) hq3 kr ?_
         refine WA_pure 12 47 (.bool (Op.bytesLess x1.1.toList x3.1.toList)) kr rfl kr (.head _) (QP_then (QP_then (QP_block (QP_then (QP_then (QP_block (QP_then QP_body))))))) ?_
         refine WA_pure 13 48 (.bool (Op.bytesLess x1.1.toList x3.1.toList)) kr rfl kr (.head _) (QP_then (QP_then (QP_block (QP_then (QP_then (QP_block (QP_then QP_body))))))) ?_
         obtain rfl := Option.some.inj hr
         exact WA_done kr (X_env _ kr (K _ _ ⟨m5, rfl, hm, st, hb1, r1⟩))
        ·rw [if_neg (not_true hc)] at hr
         refine WA_fact (t := 37) (b := false) (decide (s1 > 0)) kr hc ?_
         refine WA_not 3 38 kr rfl kr (.head _) (QP_then (QP_then (QP_block (QP_then (QP_then (QP_block (QP_then QP_body))))))) ?_
         refine WA_not 4 39 kr rfl kr (.head _) (QP_then (QP_then (QP_block (QP_then (QP_then (QP_block (QP_then QP_body))))))) ?_
         refine WA_not 5 40 kr rfl kr (.head _) (QP_then (QP_then (QP_block (QP_then (QP_then (QP_block (QP_then QP_body))))))) ?_
         refine WA_not 6 41 kr rfl kr (.head _) (QP_then (QP_then (QP_block (QP_then (QP_then (QP_block (QP_then QP_body))))))) ?_
         refine WA_not 7 42 kr rfl kr (.head _) (QP_then (QP_then (QP_block (QP_then (QP_then (QP_block (QP_then QP_body))))))) ?_
         refine WA_not 8 43 kr rfl kr (.head _) (QP_then (QP_then (QP_block (QP_then (QP_then (QP_block (QP_then QP_body))))))) ?_
         refine WA_not 9 44 kr rfl kr (.head _) (QP_then (QP_then (QP_block (QP_then (QP_then (QP_block (QP_then QP_body))))))) ?_
         refine WA_not 10 45 kr rfl kr (.head _) (QP_then (QP_then (QP_block (QP_then (QP_then (QP_block (QP_then QP_body))))))) ?_
         refine WA_not 11 46 kr rfl kr (.head _) (QP_then (QP_then (QP_block (QP_then (QP_then (QP_block (QP_then QP_body))))))) ?_
         refine WA_not 12 47 kr rfl kr (.head _) (QP_then (QP_then (QP_block (QP_then (QP_then (QP_block (QP_then QP_body))))))) ?_
         refine WA_pure 13 48 (.bool false) kr rfl kr (.head _) (QP_then (QP_then (QP_block (QP_then (QP_then (QP_block (QP_then QP_body))))))) ?_
         obtain rfl := Option.some.inj hr
         exact WA_done kr (X_env _ kr (K _ _ ⟨m5, rfl, hm, st, hb1, r1⟩))
     ·intro K
      clear hrK
      refine W_draw [(14, fun w' => Inv m4 w' ∧ Piece.holds m4 w' (.blk b3 (.cells #[.string x1.1, .string x1.2] 46 (0, 0))) ∧ True)] kr st ?_
      clear st
      intro w8 _ st
      have hmS1 := m4.le_refl
      refine ⟨⟨.inr ⟨Inv.anti st.inv hmS1, Piece.holds_anti st.head hmS1, trivial⟩, trivial⟩, ?_⟩
      refine WA_pure 0 21 (.int .i64 s1) kr rfl kr (.head _) (QP_then (QP_then (QP_block (QP_then (QP_then (QP_block (QP_then QP_body))))))) ?_
      refine WA_pure 1 22 (.bool (decide (s1 > 0))) kr rfl kr (.head _) (QP_then (QP_then (QP_block (QP_then (QP_then (QP_block (QP_then QP_body))))))) ?_
      refine WA_pure 2 23 (.bool (decide (s1 > 0))) kr rfl kr (.head _) (QP_then (QP_then (QP_block (QP_then (QP_then (QP_block (QP_then QP_body))))))) ?_
      rcases bcases (decide (s1 > 0)) with hc | hc
      ·rw [if_pos hc] at hr
       refine WA_fact (t := 23) (b := true) (decide (s1 > 0)) kr hc ?_
       refine WA_pure 3 24 (.pointer (some ⟨b3, 0, none⟩)) kr rfl kr (.head _) (QP_then (QP_then (QP_block (QP_then (QP_then (QP_block (QP_then QP_body))))))) ?_
       refine WA_load_own (t := 9) (x := (.tmp 24)) 4 25 (.string x1.1) kr rfl kr (.head _) (QP_then (QP_then (QP_block (QP_then (QP_then (QP_block (QP_then QP_body))))))) (fun _ h => h.2.1) (ev (.pointer (some ⟨b3, 0, none⟩))) kr ?_
       refine WA_pure 5 26 (.pointer (some ⟨b1, 0, none⟩)) kr rfl kr (.head _) (QP_then (QP_then (QP_block (QP_then (QP_then (QP_block (QP_then QP_body))))))) ?_
       refine WA_load_row (t := 27) (x := (.tmp 26)) 6 27 (.slice a1 (List.length p0) c1) kr rfl kr (.head _) (QP_then (QP_then (QP_block (QP_then (QP_then (QP_block (QP_then QP_body))))))) (fun _ h => h.1) (ev (.pointer (some ⟨b1, 0, none⟩))) hb1 kr ?_
       refine WA_pure 7 28 (.int .i64 s1) kr rfl kr (.head _) (QP_then (QP_then (QP_block (QP_then (QP_then (QP_block (QP_then QP_body))))))) ?_
       refine WA_pure 8 29 (.int .i64 (IntKind.wrap .i64 (s1 - 1))) kr rfl kr (.head _) (QP_then (QP_then (QP_block (QP_then (QP_then (QP_block (QP_then QP_body))))))) ?_
       replace ⟨x2, hx3, hr⟩ := bindS hr
       refine WA_index (t := 27) (e := 46) (x := (.tmp 27)) (y := (.tmp 29)) 9 30 (cPair cStr cStr) kr rfl kr (.head _) (QP_then (QP_then (QP_block (QP_then (QP_then (QP_block (QP_then QP_body))))))) (ev (.slice a1 (List.length p0) c1)) (ev (.int .i64 (IntKind.wrap .i64 (s1 - 1)))) kr r1 hx3 ?_
       rintro b4 f2 cs2 ⟨_, _, rfl, rfl, rfl⟩ hq2
       refine WA_pure 10 31 (.pointer (some ⟨b4, f2, none⟩)) kr rfl kr (.head _) (QP_then (QP_then (QP_block (QP_then (QP_then (QP_block (QP_then QP_body))))))) ?_
       refine WA_load_row (t := 9) (x := (.tmp 31)) 11 32 (.string x2.1) kr rfl kr (.head _) (QP_then (QP_then (QP_block (QP_then (QP_then (QP_block (QP_then QP_body))))))) (fun _ h => h.1) (ev (.pointer (some ⟨b4, f2, none⟩))) hq2 kr ?_
       refine WA_pure 12 33 (.bool (x1.1.toList == x2.1.toList)) kr rfl kr (.head _) (QP_then (QP_then (QP_block (QP_then (QP_then (QP_block (QP_then QP_body))))))) ?_
       refine WA_pure 13 34 (.bool (x1.1.toList == x2.1.toList)) kr rfl kr (.head _) (QP_then (QP_then (QP_block (QP_then (QP_then (QP_block (QP_then QP_body))))))) ?_
       obtain rfl := Option.some.inj hr
       exact WA_done kr (X_env _ kr (K _ _ ⟨m4, rfl, hm, st, hb1, r1⟩))
      ·rw [if_neg (not_true hc)] at hr
       refine WA_fact (t := 23) (b := false) (decide (s1 > 0)) kr hc ?_
       refine WA_not 3 24 kr rfl kr (.head _) (QP_then (QP_then (QP_block (QP_then (QP_then (QP_block (QP_then QP_body))))))) ?_
       refine WA_not 4 25 kr rfl kr (.head _) (QP_then (QP_then (QP_block (QP_then (QP_then (QP_block (QP_then QP_body))))))) ?_
       refine WA_not 5 26 kr rfl kr (.head _) (QP_then (QP_then (QP_block (QP_then (QP_then (QP_block (QP_then QP_body))))))) ?_
       refine WA_not 6 27 kr rfl kr (.head _) (QP_then (QP_then (QP_block (QP_then (QP_then (QP_block (QP_then QP_body))))))) ?_
       refine WA_not 7 28 kr rfl kr (.head _) (QP_then (QP_then (QP_block (QP_then (QP_then (QP_block (QP_then QP_body))))))) ?_
       refine WA_not 8 29 kr rfl kr (.head _) (QP_then (QP_then (QP_block (QP_then (QP_then (QP_block (QP_then QP_body))))))) ?_
       refine WA_not 9 30 kr rfl kr (.head _) (QP_then (QP_then (QP_block (QP_then (QP_then (QP_block (QP_then QP_body))))))) ?_
       refine WA_not 10 31 kr rfl kr (.head _) (QP_then (QP_then (QP_block (QP_then (QP_then (QP_block (QP_then QP_body))))))) ?_
       refine WA_not 11 32 kr rfl kr (.head _) (QP_then (QP_then (QP_block (QP_then (QP_then (QP_block (QP_then QP_body))))))) ?_
       refine WA_not 12 33 kr rfl kr (.head _) (QP_then (QP_then (QP_block (QP_then (QP_then (QP_block (QP_then QP_body))))))) ?_
       refine WA_pure 13 34 (.bool false) kr rfl kr (.head _) (QP_then (QP_then (QP_block (QP_then (QP_then (QP_block (QP_then QP_body))))))) ?_
       obtain rfl := Option.some.inj hr
       exact WA_done kr (X_env _ kr (K _ _ ⟨m4, rfl, hm, st, hb1, r1⟩))
   ·intro hc
    rw [if_neg (not_true hc)] at hr
    refine W_exit ?_
    refine X_then_exit ?_
    obtain rfl := Option.some.inj hr
    have ho := hBu1 _ rfl
    refine X_then_exit ?_
    exact X_env _ kr (K0_u1 _ _ ⟨(), m3, ho, rfl, hm, st⟩)
def testgateref03_PutUint_L1 (N : Nat) (s1 : Int × List (UInt8)) : Option ((Int × List (UInt8)) ⊕ ((Int × List (UInt8)))) :=
 if (decide (s1.1 ≥ 128)) = true then ((appendS 1 s1.2 ([toU8 (IntKind.wrap .u8 ((IntKind.wrap .u8 (Int.tmod s1.1 128)) + 128))])).bind fun l2 => some (.inl (IntKind.wrap .u64 (Int.tdiv s1.1 128), l2))) else (some (.inr (s1.1, s1.2)))
def testgateref03_PutUint (N : Nat) (p0 : List UInt8) (p1 : Int) : Option (List UInt8) :=
 (appendS 1 ([] : List (UInt8)) p0).bind fun l1 => (loopM (testgateref03_PutUint_L1 N) N (p1, l1)).bind fun o1 => (appendS 1 o1.2 ([toU8 (IntKind.wrap .u8 o1.1)])).bind fun l3 => some l3
set_option maxHeartbeats 4000000 in
set_option maxRecDepth 100000 in
theorem testgateref03_PutUint_ok {N : Nat} {m : Mem} {own : List Piece} {w : World} {p0 : List UInt8} {p1 : Int} {a1 : Option Addr} {c1 : Nat} {r : List UInt8} (st : St m (own) w) (r1 : RepS cU8 m a1 c1 p0) (hr : testgateref03_PutUint N p0 p1 = some r) : Calls Tryz.prog 23 #[.slice a1 (List.length p0) c1, .int .u64 p1] w fun e w' => ∃ (ra1 : Option Addr) (rc1 : Nat) (m' : Mem), e = .returned (.slice ra1 (List.length r) rc1) ∧ m.le m' ∧ St m' (.room ra1 (List.length r) rc1 5 1 :: own) w' ∧ RepS cU8 m' ra1 rc1 r := by
 unfold testgateref03_PutUint at hr
 have hm := m.le_refl
 refine W_calls Tryz.func23 rfl Tryz.ntmps23 [(0, .slice a1 (List.length p0) c1), (1, .int .u64 p1)] kr rfl ?_
 refine W_sr (WO_seg 1 [] kr kr ?_)
 refine WO_et rfl (W_sr ?_)
 refine WO_seg 1 [(6, .slice a1 (List.length p0) c1)] kr kr ?_
 have st := st.nilroom 5 1
 replace ⟨l1, hx1, hr⟩ := bindS hr
 refine WO_one rfl (One_append (d := 7) (t := 23) (u := 23) (e := 5) (by_ := 1) (x := (.const (.slice none 0 0))) (y := (.tmp 6)) cU8 kr rfl (ev (.slice none (List.length ([] : List (UInt8))) 0)) (ev (.slice a1 (List.length p0) c1)) st kr (.inl kr) (RepS.nil _ _) r1.src hx1 ?_)
 clear st
 intro a2 c2 m1 w1 hle1 st r2
 have hm := Mem.le_trans hm hle1
 have r1 := r1.mono hle1
 refine WO_seg 1 [(5, .slice a2 (List.length l1) c2)] kr kr ?_
 refine WO_et rfl (W_seq ?_)
 refine W_block ?_
 replace ⟨out1, hr, hrKu1⟩ := bindS hr
 refine W_cut (.exit 0) (fun L' w' => ∃ (o1 : Int × List (UInt8)) (a3 : Option Addr) (c3 : Nat) (m2 : Mem), o1 = out1 ∧ L' = [(1, .int .u64 o1.1), (5, .slice a3 (List.length o1.2) c3)] ∧ m.le m2 ∧ St m2 (.room a3 (List.length o1.2) c3 5 1 :: own) w' ∧ RepS cU8 m2 a3 c3 o1.2) ?_ ?_
 ·clear hr st
  rintro _ w2 ⟨o1, a3, c3, m2, rfl, rfl, hm, st, r3⟩
  have hr := hrKu1
  clear hrKu1
  refine X_block_eq ?_
  refine X_then ?_
  refine W_sr (WO_seg 3 [(19, .slice a3 (List.length o1.2) c3), (21, .int .u8 (IntKind.wrap .u8 o1.1))] kr kr ?_)
  refine WO_one rfl (One_buildSlice (d := 22) (t := 23) (e := 5) (len := 1) (parts := #[(0, (.tmp 21))]) cU8 (xs := [toU8 (IntKind.wrap .u8 o1.1)]) [.int .u8 (IntKind.wrap .u8 o1.1)] kr rfl (fun _ => buildCells_run kr _) rfl rfl st ⟨[.int .u8 (IntKind.wrap .u8 o1.1)], _, rfl, (rep_u8_wrap _), rfl⟩ ?_)
  clear st
  intro b2 m6 w6 hle4 st r7
  have hm := Mem.le_trans hm hle4
  have r3 := r3.mono hle4
  have st := st.front1
  replace ⟨l3, hx3, hr⟩ := bindS hr
  refine WO_one rfl (One_append (d := 23) (t := 23) (u := 23) (e := 5) (by_ := 1) (x := (.tmp 19)) (y := (.tmp 22)) cU8 kr rfl (ev (.slice a3 (List.length o1.2) c3)) (ev (.slice (some ⟨b2, 0, none⟩) (List.length ([toU8 (IntKind.wrap .u8 o1.1)])) 1)) st kr (.inl kr) r3 r7.src hx3 ?_)
  clear st
  intro a6 c6 m7 w7 hle5 st r8
  have hm := Mem.le_trans hm hle5
  have r3 := r3.mono hle5
  have r7 := r7.mono hle5
  refine WO_seg 1 [(4, .slice a6 (List.length l3) c6)] kr kr ?_
  refine WO_end rfl ?_
  have st := st.front1
  have st := st.tail
  refine X_then ?_
  refine W_ret ?_
  obtain rfl := Option.some.inj hr
  refine X_ret [.tmp 4] [.slice a6 (List.length l3) c6] rfl (ResAll.cons (ResAt.tmp kr) ResAll.nil) ?_
  exact ⟨a6, c6, m7, rfl, hm, st, r8⟩
 intro K0_u1
 clear hrKu1
 refine W_env _ kr (W_loop (fun k1 L' w' => ∃ (s1 : Int × List (UInt8)) (a4 : Option Addr) (c4 : Nat) (m3 : Mem), loopM (testgateref03_PutUint_L1 N) k1 s1 = some out1 ∧ L' = [(1, .int .u64 s1.1), (5, .slice a4 (List.length s1.2) c4)] ∧ m.le m3 ∧ St m3 (.room a4 (List.length s1.2) c4 5 1 :: own) w' ∧ RepS cU8 m3 a4 c4 s1.2) N ⟨(p1, l1), a2, c2, m1, hr, rfl, hm, st, r2⟩ ?_)
 clear st hr
 rintro k1 _ w3 ⟨s1, a4, c4, m3, hL, rfl, hm, st, r4⟩
 rcases k1 with _ | k1
 ·exact loopM_zero hL
 ·obtain ⟨qu1, hr, hSu1, hBu1⟩ := loopM_succ hL
  clear hL
  unfold testgateref03_PutUint_L1 at hr
  refine W_seq ?_
  refine W_sr (WO_seg 2 [(9, .bool (decide (s1.1 ≥ 128)))] kr kr ?_)
  refine WO_et rfl (W_cond (decide (s1.1 ≥ 128)) kr ?_ ?_)
  ·intro hc
   rw [if_pos hc] at hr
   refine W_skip ?_
   refine X_then ?_
   refine W_block ?_
   refine W_sr (WO_seg 5 [(10, .slice a4 (List.length s1.2) c4), (14, .int .u8 (IntKind.wrap .u8 ((IntKind.wrap .u8 (Int.tmod s1.1 128)) + 128)))] kr kr ?_)
   refine WO_one rfl (One_buildSlice (d := 15) (t := 23) (e := 5) (len := 1) (parts := #[(0, (.tmp 14))]) cU8 (xs := [toU8 (IntKind.wrap .u8 ((IntKind.wrap .u8 (Int.tmod s1.1 128)) + 128))]) [.int .u8 (IntKind.wrap .u8 ((IntKind.wrap .u8 (Int.tmod s1.1 128)) + 128))] kr rfl (fun _ => buildCells_run kr _) rfl rfl st ⟨[.int .u8 (IntKind.wrap .u8 ((IntKind.wrap .u8 (Int.tmod s1.1 128)) + 128))], _, rfl, (rep_u8_wrap _), rfl⟩ ?_)
   clear st
   intro b1 m4 w4 hle2 st r5
   have hm := Mem.le_trans hm hle2
   have r4 := r4.mono hle2
   have st := st.front1
   replace ⟨l2, hx2, hr⟩ := bindS hr
   refine WO_one rfl (One_append (d := 16) (t := 23) (u := 23) (e := 5) (by_ := 1) (x := (.tmp 10)) (y := (.tmp 15)) cU8 kr rfl (ev (.slice a4 (List.length s1.2) c4)) (ev (.slice (some ⟨b1, 0, none⟩) (List.length ([toU8 (IntKind.wrap .u8 ((IntKind.wrap .u8 (Int.tmod s1.1 128)) + 128))])) 1)) st kr (.inl kr) r4 r5.src hx2 ?_)
   clear st
   intro a5 c5 m5 w5 hle3 st r6
   have hm := Mem.le_trans hm hle3
   have r4 := r4.mono hle3
   have r5 := r5.mono hle3
   refine WO_seg 1 [(5, .slice a5 (List.length l2) c5)] kr kr ?_
   refine WO_end rfl ?_
   have st := st.front1
   have st := st.tail
   refine X_then ?_
   refine W_region ?_
   refine WO_seg 3 [(1, .int .u64 (IntKind.wrap .u64 (Int.tdiv s1.1 128)))] kr kr ?_
   refine WO_end rfl ?_
   refine X_block ?_
   obtain rfl := Option.some.inj hr
   have hL := hSu1 _ rfl
   exact X_env _ kr (X_round k1 (Nat.lt_succ_self _) ⟨(IntKind.wrap .u64 (Int.tdiv s1.1 128), l2), a5, c5, m5, hL, rfl, hm, st, r6⟩)
  ·intro hc
   rw [if_neg (not_true hc)] at hr
   refine W_exit ?_
   refine X_then_exit ?_
   obtain rfl := Option.some.inj hr
   have ho := hBu1 _ rfl
   refine X_then_exit ?_
   exact X_env _ kr (K0_u1 _ _ ⟨(s1.1, s1.2), a4, c4, m3, ho, rfl, hm, st, r4⟩)
def testgateref03_PutText (N : Nat) (p0 : List UInt8) (p1 : ByteArray) : Option (List UInt8) :=
 (testgateref03_PutUint N p0 (IntKind.wrap .u64 (ByteArray.size p1 : Int))).bind fun y1 => (appendS 1 y1 p1.data.toList).bind fun l1 => some l1
set_option maxHeartbeats 4000000 in
set_option maxRecDepth 100000 in
theorem testgateref03_PutText_ok {N : Nat} {m : Mem} {own : List Piece} {w : World} {p0 : List UInt8} {p1 : ByteArray} {a1 : Option Addr} {c1 : Nat} {r : List UInt8} (st : St m (own) w) (r1 : RepS cU8 m a1 c1 p0) (hr : testgateref03_PutText N p0 p1 = some r) : Calls Tryz.prog 22 #[.slice a1 (List.length p0) c1, .string p1] w fun e w' => ∃ (ra1 : Option Addr) (rc1 : Nat) (m' : Mem), e = .returned (.slice ra1 (List.length r) rc1) ∧ m.le m' ∧ St m' (.room ra1 (List.length r) rc1 5 1 :: own) w' ∧ RepS cU8 m' ra1 rc1 r := by
 unfold testgateref03_PutText at hr
 have hm := m.le_refl
 refine W_calls Tryz.func22 rfl Tryz.ntmps22 [(0, .slice a1 (List.length p0) c1), (1, .string p1)] kr rfl ?_
 refine W_sr (WO_seg 1 [] kr kr ?_)
 refine WO_et rfl (W_sr ?_)
 refine WO_seg 4 [(5, .slice a1 (List.length p0) c1), (8, .int .u64 (IntKind.wrap .u64 (ByteArray.size p1 : Int)))] kr kr ?_
 replace ⟨y1, hx1, hr⟩ := bindS hr
 refine WO_one rfl (One_fn 9 23 #[.slice a1 (List.length p0) c1, .int .u64 (IntKind.wrap .u64 (ByteArray.size p1 : Int))] kr rfl ?_)
 refine (testgateref03_PutUint_ok st r1 hx1).mono ?_
 clear st
 rintro _ w1 ⟨a2, c2, m1, rfl, hle1, st, r2⟩
 refine ⟨_, rfl, ?_⟩
 have hm := Mem.le_trans hm hle1
 have r1 := r1.mono hle1
 refine WO_seg 1 [(10, .string p1)] kr kr ?_
 replace ⟨l1, hx2, hr⟩ := bindS hr
 refine WO_one rfl (One_append (d := 11) (t := 23) (u := 9) (e := 5) (by_ := 1) (x := (.tmp 9)) (y := (.tmp 10)) cU8 kr rfl (ev (.slice a2 (List.length y1) c2)) (ev (.string p1)) st kr (.inr kr) r2 (Gives.str _) hx2 ?_)
 clear st
 intro a3 c3 m2 w2 hle2 st r3
 have hm := Mem.le_trans hm hle2
 have r1 := r1.mono hle2
 have r2 := r2.mono hle2
 refine WO_seg 1 [(4, .slice a3 (List.length l1) c3)] kr kr ?_
 refine WO_et rfl (W_ret ?_)
 obtain rfl := Option.some.inj hr
 refine X_ret [.tmp 4] [.slice a3 (List.length l1) c3] rfl (ResAll.cons (ResAt.tmp kr) ResAll.nil) ?_
 exact ⟨a3, c3, m2, rfl, hm, st, r3⟩
def testgateref03_Checksum_L1 (N : Nat) (p0 : List UInt8) (s1 : Int × Int × Int) : Option ((Int × Int × Int) ⊕ ((Int × Int))) :=
 if (decide (s1.2.2 < (List.length p0 : Int))) = true then ((idx p0 s1.2.2).bind fun x1 => some (.inl (Int.tmod (IntKind.wrap .u32 (s1.1 + (IntKind.wrap .u32 (x1.toNat : Int)))) 65521, Int.tmod (IntKind.wrap .u32 (s1.2.1 + (Int.tmod (IntKind.wrap .u32 (s1.1 + (IntKind.wrap .u32 (x1.toNat : Int)))) 65521))) 65521, IntKind.wrap .i64 (s1.2.2 + 1)))) else (some (.inr (s1.1, s1.2.1)))
def testgateref03_Checksum (N : Nat) (p0 : List UInt8) : Option (Int) :=
 (loopM (testgateref03_Checksum_L1 N p0) N (1, 0, 0)).bind fun o1 => some (IntKind.wrap .u32 (o1.1 + (IntKind.wrap .u32 (65536 * o1.2))))
set_option maxHeartbeats 4000000 in
set_option maxRecDepth 100000 in
theorem testgateref03_Checksum_ok {N : Nat} {m : Mem} {own : List Piece} {w : World} {p0 : List UInt8} {a1 : Option Addr} {c1 : Nat} {r : Int} (st : St m (own) w) (r1 : RepS cU8 m a1 c1 p0) (hr : testgateref03_Checksum N p0 = some r) : Calls Tryz.prog 24 #[.slice a1 (List.length p0) c1] w fun e w' => ∃ (m' : Mem), e = .returned (.int .u32 r) ∧ m.le m' ∧ St m' (own) w' := by
 unfold testgateref03_Checksum at hr
 have hm := m.le_refl
 refine W_calls Tryz.func24 rfl Tryz.ntmps24 [(0, .slice a1 (List.length p0) c1)] kr rfl ?_
 refine W_sr (WO_seg 1 [] kr kr ?_)
 refine WO_et rfl (W_sr ?_)
 refine WO_seg 2 [(3, .int .u32 1), (4, .int .u32 0)] kr kr ?_
 refine WO_et rfl (W_seq ?_)
 refine W_sr (WO_seg 1 [(5, .int .i64 0)] kr kr ?_)
 refine WO_et rfl (W_block ?_)
 replace ⟨out1, hr, hrKu1⟩ := bindS hr
 refine W_cut (.exit 0) (fun L' w' => ∃ (o1 : Int × Int) (m1 : Mem), o1 = out1 ∧ L' = [(3, .int .u32 o1.1), (4, .int .u32 o1.2)] ∧ m.le m1 ∧ St m1 (own) w') ?_ ?_
 ·clear hr st
  rintro _ w1 ⟨o1, m1, rfl, rfl, hm, st⟩
  have hr := hrKu1
  clear hrKu1
  refine X_block_eq ?_
  refine X_then ?_
  refine W_sr (WO_seg 5 [(2, .int .u32 (IntKind.wrap .u32 (o1.1 + (IntKind.wrap .u32 (65536 * o1.2)))))] kr kr ?_)
  refine WO_et rfl (W_ret ?_)
  obtain rfl := Option.some.inj hr
  refine X_ret [.tmp 2] [.int .u32 (IntKind.wrap .u32 (o1.1 + (IntKind.wrap .u32 (65536 * o1.2))))] rfl (ResAll.cons (ResAt.tmp kr) ResAll.nil) ?_
  exact ⟨m1, rfl, hm, st⟩
 intro K0_u1
 clear hrKu1
 refine W_env _ kr (W_loop (fun k1 L' w' => ∃ (s1 : Int × Int × Int) (m2 : Mem), loopM (testgateref03_Checksum_L1 N p0) k1 s1 = some out1 ∧ L' = [(0, .slice a1 (List.length p0) c1), (3, .int .u32 s1.1), (4, .int .u32 s1.2.1), (5, .int .i64 s1.2.2)] ∧ m.le m2 ∧ St m2 (own) w' ∧ RepS cU8 m2 a1 c1 p0) N ⟨(1, 0, 0), m, hr, rfl, hm, st, r1⟩ ?_)
 clear st hr
 rintro k1 _ w2 ⟨s1, m2, hL, rfl, hm, st, r1⟩
 rcases k1 with _ | k1
 ·exact loopM_zero hL
 ·obtain ⟨qu1, hr, hSu1, hBu1⟩ := loopM_succ hL
  clear hL
  unfold testgateref03_Checksum_L1 at hr
  refine W_seq ?_
  refine W_sr (WO_seg 4 [(9, .bool (decide (s1.2.2 < (List.length p0 : Int))))] kr kr ?_)
  refine WO_et rfl (W_cond (decide (s1.2.2 < (List.length p0 : Int))) kr ?_ ?_)
  ·intro hc
   rw [if_pos hc] at hr
   refine W_skip ?_
   refine X_then ?_
   refine W_seq ?_
   refine W_block ?_
   refine W_sr (WO_seg 3 [(12, .int .u32 s1.1), (13, .slice a1 (List.length p0) c1), (14, .int .i64 s1.2.2)] kr kr ?_)
   replace ⟨x1, hx1, hr⟩ := bindS hr
   refine WO_one rfl (One_index (d := 15) (t := 23) (e := 5) (x := (.tmp 13)) (y := (.tmp 14)) cU8 kr rfl (ev (.slice a1 (List.length p0) c1)) (ev (.int .i64 s1.2.2)) kr r1 hx1 ?_)
   rintro b1 f1 cs1 rfl hq1
   refine WO_one rfl (One_load_row (d := 16) (t := 5) (x := (.tmp 15)) (.int .u8 (x1.toNat : Int)) kr rfl (ev (.pointer (some ⟨b1, f1, none⟩))) st hq1 kr ?_)
   refine WO_seg 4 [(3, .int .u32 (Int.tmod (IntKind.wrap .u32 (s1.1 + (IntKind.wrap .u32 (x1.toNat : Int)))) 65521))] kr kr ?_
   refine WO_et rfl (W_region ?_)
   refine WO_seg 5 [(4, .int .u32 (Int.tmod (IntKind.wrap .u32 (s1.2.1 + (Int.tmod (IntKind.wrap .u32 (s1.1 + (IntKind.wrap .u32 (x1.toNat : Int)))) 65521))) 65521))] kr kr ?_
   refine WO_end rfl ?_
   refine X_block ?_
   refine X_then ?_
   refine W_region ?_
   refine WO_seg 3 [(5, .int .i64 (IntKind.wrap .i64 (s1.2.2 + 1)))] kr kr ?_
   refine WO_end rfl ?_
   obtain rfl := Option.some.inj hr
   have hL := hSu1 _ rfl
   exact X_env _ kr (X_round k1 (Nat.lt_succ_self _) ⟨(Int.tmod (IntKind.wrap .u32 (s1.1 + (IntKind.wrap .u32 (x1.toNat : Int)))) 65521, Int.tmod (IntKind.wrap .u32 (s1.2.1 + (Int.tmod (IntKind.wrap .u32 (s1.1 + (IntKind.wrap .u32 (x1.toNat : Int)))) 65521))) 65521, IntKind.wrap .i64 (s1.2.2 + 1)), m2, hL, rfl, hm, st, r1⟩)
  ·intro hc
   rw [if_neg (not_true hc)] at hr
   refine W_exit ?_
   refine X_then_exit ?_
   obtain rfl := Option.some.inj hr
   have ho := hBu1 _ rfl
   refine X_then_exit ?_
   exact X_env _ kr (K0_u1 _ _ ⟨(s1.1, s1.2.1), m2, ho, rfl, hm, st⟩)
def testgateref03_Frame (N : Nat) (p0 : Int × List UInt8) : Option (List UInt8 × Int) :=
 (if (decide (p0.1 < 1)) = true then (some true) else (some (decide (p0.1 > 255))) : Option (Bool)).bind fun o1 => if o1 = true then (some (([] : List (UInt8)), 3)) else (if (decide ((List.length p0.2 : Int) > 2097152)) = true then (some (([] : List (UInt8)), 2)) else ((testgateref03_PutUint N ([(247 : UInt8), toU8 (IntKind.wrap .u8 p0.1)]) (IntKind.wrap .u64 (List.length p0.2 : Int))).bind fun y1 => (appendS 1 y1 p0.2).bind fun l1 => (subS l1 1 (List.length l1 : Int)).bind fun l2 => (testgateref03_Checksum N l2).bind fun y2 => (appendS 1 l1 ([toU8 (IntKind.wrap .u8 y2), toU8 (IntKind.wrap .u8 (Int.fdiv y2 (2 ^ 8))), toU8 (IntKind.wrap .u8 (Int.fdiv y2 (2 ^ 16))), toU8 (IntKind.wrap .u8 (Int.fdiv y2 (2 ^ 24)))])).bind fun l3 => some (l3, 0)))
set_option maxHeartbeats 4000000 in
set_option maxRecDepth 100000 in
theorem testgateref03_Frame_ok {N : Nat} {m : Mem} {own : List Piece} {w : World} {p0 : Int × List UInt8} {a1 : Option Addr} {c1 : Nat} {r : List UInt8 × Int} (st : St m (own) w) (r1 : RepS cU8 m a1 c1 p0.2) (hr : testgateref03_Frame N p0 = some r) : Calls Tryz.prog 8 #[.agg #[.int .i64 p0.1, .slice a1 (List.length p0.2) c1]] w fun e w' => ∃ (ra1 : Option Addr) (rc1 : Nat) (m' : Mem), e = .returned (.tuple #[.slice ra1 (List.length r.1) rc1, .int .i64 r.2]) ∧ m.le m' ∧ St m' (.room ra1 (List.length r.1) rc1 5 1 :: own) w' ∧ RepS cU8 m' ra1 rc1 r.1 := by
 unfold testgateref03_Frame at hr
 have hm := m.le_refl
 refine W_calls Tryz.func8 rfl Tryz.ntmps8 [(0, .agg #[.int .i64 p0.1, .slice a1 (List.length p0.2) c1])] kr rfl ?_
 refine W_sr (WO_one rfl (One_box (d := 1) (e := 37) (x := (.tmp 0)) (.agg #[.int .i64 p0.1, .slice a1 (List.length p0.2) c1]) kr rfl kr st ?_))
 clear st
 intro b1 m1 w1 hle1 st hb1
 have hm := Mem.le_trans hm hle1
 have r1 := r1.mono hle1
 refine WO_seg 2 [] kr kr ?_
 refine WO_et rfl (W_seq ?_)
 refine W_sr ?_
 replace ⟨o1, hr, hrK⟩ := bindS hr
 refine WO_cut (j := 8) (fun L' w' => ∃ (m2 : Mem), L' = [(1, .pointer (some ⟨b1, 0, none⟩)), (13, .bool o1)] ∧ m.le m2 ∧ St m2 (own) w' ∧ MRow m2 b1 0 [.int .i64 p0.1, .slice a1 (List.length p0.2) c1] ∧ RepS cU8 m2 a1 c1 p0.2) ?_ ?_
 ·clear hr st
  have hr := hrK
  clear hrK
  rintro _ w2 ⟨m2, rfl, hm, st, hb1, r1⟩
  refine WO_et rfl (W_cond o1 kr ?_ ?_)
  ·intro hc
   rw [if_pos hc] at hr
   refine W_sr (WO_seg 2 [(2, .slice none (List.length ([] : List (UInt8))) 0), (3, .int .i64 3)] kr kr ?_)
   refine WO_et rfl (W_ret ?_)
   refine X_then_ret ?_
   obtain rfl := Option.some.inj hr
   refine X_ret [.tmp 2, .tmp 3] [.slice none (List.length ([] : List (UInt8))) 0, .int .i64 3] rfl (ResAll.cons (ResAt.tmp kr) (ResAll.cons (ResAt.tmp kr) ResAll.nil)) ?_
   have st := st.nilroom 5 1
   exact ⟨none, 0, m2, rfl, hm, st, (RepS.nil _ _)⟩
  ·intro hc
   rw [if_neg (not_true hc)] at hr
   refine W_skip ?_
   refine X_then ?_
   refine W_seq ?_
   refine W_sr (WO_seg 1 [(14, .pointer (some ⟨b1, 1, none⟩))] kr kr ?_)
   refine WO_one rfl (One_load_row (d := 15) (t := 23) (x := (.tmp 14)) (.slice a1 (List.length p0.2) c1) kr rfl (ev (.pointer (some ⟨b1, 1, none⟩))) st (hb1.drop 1) kr ?_)
   refine WO_seg 2 [(17, .bool (decide ((List.length p0.2 : Int) > 2097152)))] kr kr ?_
   refine WO_et rfl (W_cond (decide ((List.length p0.2 : Int) > 2097152)) kr ?_ ?_)
   ·intro hc
    rw [if_pos hc] at hr
    refine W_sr (WO_seg 2 [(2, .slice none (List.length ([] : List (UInt8))) 0), (3, .int .i64 2)] kr kr ?_)
    refine WO_et rfl (W_ret ?_)
    refine X_then_ret ?_
    obtain rfl := Option.some.inj hr
    refine X_ret [.tmp 2, .tmp 3] [.slice none (List.length ([] : List (UInt8))) 0, .int .i64 2] rfl (ResAll.cons (ResAt.tmp kr) (ResAll.cons (ResAt.tmp kr) ResAll.nil)) ?_
    have st := st.nilroom 5 1
    exact ⟨none, 0, m2, rfl, hm, st, (RepS.nil _ _)⟩
   ·intro hc
    rw [if_neg (not_true hc)] at hr
    refine W_skip ?_
    refine X_then ?_
    refine W_seq ?_
    refine W_draw [(13, fun w' => Inv m2 w' ∧ True)] kr st ?_
    clear st
    intro w3 _ st
    have hmS1 := m2.le_refl
    refine ⟨⟨.inr ⟨Inv.anti st.inv hmS1, trivial⟩, trivial⟩, ?_⟩
    refine WA_pure 0 18 (.pointer (some ⟨b1, 0, none⟩)) kr rfl kr (.head _) (QP_then QP_body) ?_
    refine WA_load_row (t := 3) (x := (.tmp 18)) 1 19 (.int .i64 p0.1) kr rfl kr (.head _) (QP_then QP_body) (fun _ h => h.1) (ev (.pointer (some ⟨b1, 0, none⟩))) hb1 kr ?_
    refine WA_pure 2 20 (.int .u8 (IntKind.wrap .u8 p0.1)) kr rfl kr (.head _) (QP_then QP_body) ?_
    refine WA_pure 4 22 (.pointer (some ⟨b1, 1, none⟩)) kr rfl kr (.head _) (QP_then QP_body) ?_
    refine WA_load_row (t := 23) (x := (.tmp 22)) 5 23 (.slice a1 (List.length p0.2) c1) kr rfl kr (.head _) (QP_then QP_body) (fun _ h => h.1) (ev (.pointer (some ⟨b1, 1, none⟩))) (hb1.drop 1) kr ?_
    refine WA_pure 6 24 (.int .i64 (List.length p0.2 : Int)) kr rfl kr (.head _) (QP_then QP_body) ?_
    refine WA_pure 7 25 (.int .u64 (IntKind.wrap .u64 (List.length p0.2 : Int))) kr rfl kr (.head _) (QP_then QP_body) ?_
    refine WA_pure 9 27 (.pointer (some ⟨b1, 1, none⟩)) kr rfl kr (.head _) (QP_then QP_body) ?_
    refine WA_load_row (t := 23) (x := (.tmp 27)) 10 28 (.slice a1 (List.length p0.2) c1) kr rfl kr (.head _) (QP_then QP_body) (fun _ h => h.1) (ev (.pointer (some ⟨b1, 1, none⟩))) (hb1.drop 1) kr ?_
    refine WA_one 3 kr  (One_buildSlice (d := 21) (t := 23) (e := 5) (len := 2) (parts := #[(0, (.const (.int .u8 247))), (1, (.tmp 20))]) cU8 (xs := [(247 : UInt8), toU8 (IntKind.wrap .u8 p0.1)]) [.int .u8 247, .int .u8 (IntKind.wrap .u8 p0.1)] kr rfl (fun _ => buildCells_run kr _) rfl rfl st ⟨[.int .u8 247], _, rfl, rfl, ⟨[.int .u8 (IntKind.wrap .u8 p0.1)], _, rfl, (rep_u8_wrap _), rfl⟩⟩ ?_)
    clear st
    intro b2 m3 w4 hle2 st r2
    have hm := Mem.le_trans hm hle2
    have hb1 := hb1.mono hle2
    have r1 := r1.mono hle2
    have hmS1 := Mem.le_trans hmS1 hle2
    refine ⟨⟨.inr ⟨Inv.anti st.inv hmS1, trivial⟩, trivial⟩, ?_⟩
    replace ⟨y1, hx1, hr⟩ := bindS hr
    refine WA_one 8 kr  (One_fn 26 23 #[.slice (some ⟨b2, 0, none⟩) (List.length ([(247 : UInt8), toU8 (IntKind.wrap .u8 p0.1)])) 2, .int .u64 (IntKind.wrap .u64 (List.length p0.2 : Int))] kr rfl ?_)
    refine (testgateref03_PutUint_ok st r2 hx1).mono ?_
    clear st
    rintro _ w5 ⟨a2, c2, m4, rfl, hle3, st, r3⟩
    refine ⟨_, rfl, ?_⟩
    have hm := Mem.le_trans hm hle3
    have hb1 := hb1.mono hle3
    have r1 := r1.mono hle3
    have r2 := r2.mono hle3
    have hmS1 := Mem.le_trans hmS1 hle3
    refine ⟨⟨.inr ⟨Inv.anti st.inv hmS1, trivial⟩, trivial⟩, ?_⟩
    replace ⟨l1, hx2, hr⟩ := bindS hr
    refine WA_one 11 kr  (One_append (d := 29) (t := 23) (u := 23) (e := 5) (by_ := 1) (x := (.tmp 26)) (y := (.tmp 28)) cU8 kr rfl (ev (.slice a2 (List.length y1) c2)) (ev (.slice a1 (List.length p0.2) c1)) st kr (.inl kr) r3 r1.src hx2 ?_)
    clear st
    intro a3 c3 m5 w6 hle4 st r4
    have hm := Mem.le_trans hm hle4
    have hb1 := hb1.mono hle4
    have r1 := r1.mono hle4
    have r2 := r2.mono hle4
    have r3 := r3.mono hle4
    have hmS1 := Mem.le_trans hmS1 hle4
    refine ⟨⟨.inr ⟨Inv.anti st.inv hmS1, trivial⟩, trivial⟩, ?_⟩
    refine WA_pure 12 4 (.slice a3 (List.length l1) c3) kr rfl kr (.head _) (QP_then QP_body) ?_
    refine WA_done kr ?_
    have st := st.front1
    have st := st.tail
    refine X_then ?_
    refine W_sr (WO_seg 1 [(30, .slice a3 (List.length l1) c3)] kr kr ?_)
    replace ⟨l2, hx3, hr⟩ := bindS hr
    refine WO_one rfl (One_slice (d := 31) (t := 23) (e := 5) (x := (.tmp 30)) (lo := (some (.const (.int .i64 1)))) (hi := none) cU8 kr rfl (ev (.slice a3 (List.length l1) c3)) kr r4 (.inr ⟨_, _, rfl, (ev (.int .i64 1))⟩) (.inl ⟨rfl, rfl⟩) hx3 ?_)
    intro a4 c4 r5
    replace ⟨y2, hx4, hr⟩ := bindS hr
    refine WO_one rfl (One_fn 32 24 #[.slice a4 (List.length l2) c4] kr rfl ?_)
    refine (testgateref03_Checksum_ok st r5 hx4).mono ?_
    clear st
    rintro _ w7 ⟨m6, rfl, hle5, st⟩
    refine ⟨_, rfl, ?_⟩
    have hm := Mem.le_trans hm hle5
    have r4 := r4.mono hle5
    have r5 := r5.mono hle5
    refine WO_seg 1 [(5, .int .u32 y2)] kr kr ?_
    refine WO_et rfl (W_sr ?_)
    refine WO_seg 12 [(33, .slice a3 (List.length l1) c3), (35, .int .u8 (IntKind.wrap .u8 y2)), (38, .int .u8 (IntKind.wrap .u8 (Int.fdiv y2 (2 ^ 8)))), (41, .int .u8 (IntKind.wrap .u8 (Int.fdiv y2 (2 ^ 16)))), (44, .int .u8 (IntKind.wrap .u8 (Int.fdiv y2 (2 ^ 24))))] kr kr ?_
    refine WO_one rfl (One_buildSlice (d := 45) (t := 23) (e := 5) (len := 4) (parts := #[(0, (.tmp 35)), (1, (.tmp 38)), (2, (.tmp 41)), (3, (.tmp 44))]) cU8 (xs := [toU8 (IntKind.wrap .u8 y2), toU8 (IntKind.wrap .u8 (Int.fdiv y2 (2 ^ 8))), toU8 (IntKind.wrap .u8 (Int.fdiv y2 (2 ^ 16))), toU8 (IntKind.wrap .u8 (Int.fdiv y2 (2 ^ 24)))]) [.int .u8 (IntKind.wrap .u8 y2), .int .u8 (IntKind.wrap .u8 (Int.fdiv y2 (2 ^ 8))), .int .u8 (IntKind.wrap .u8 (Int.fdiv y2 (2 ^ 16))), .int .u8 (IntKind.wrap .u8 (Int.fdiv y2 (2 ^ 24)))] kr rfl (fun _ => buildCells_run kr _) rfl rfl st ⟨[.int .u8 (IntKind.wrap .u8 y2)], _, rfl, (rep_u8_wrap _), ⟨[.int .u8 (IntKind.wrap .u8 (Int.fdiv y2 (2 ^ 8)))], _, rfl, (rep_u8_wrap _), ⟨[.int .u8 (IntKind.wrap .u8 (Int.fdiv y2 (2 ^ 16)))], _, rfl, (rep_u8_wrap _), ⟨[.int .u8 (IntKind.wrap .u8 (Int.fdiv y2 (2 ^ 24)))], _, rfl, (rep_u8_wrap _), rfl⟩⟩⟩⟩ ?_)
    clear st
    intro b3 m7 w8 hle6 st r6
    have hm := Mem.le_trans hm hle6
    have r4 := r4.mono hle6
    have st := st.front1
    replace ⟨l3, hx5, hr⟩ := bindS hr
    refine WO_one rfl (One_append (d := 46) (t := 23) (u := 23) (e := 5) (by_ := 1) (x := (.tmp 33)) (y := (.tmp 45)) cU8 kr rfl (ev (.slice a3 (List.length l1) c3)) (ev (.slice (some ⟨b3, 0, none⟩) (List.length ([toU8 (IntKind.wrap .u8 y2), toU8 (IntKind.wrap .u8 (Int.fdiv y2 (2 ^ 8))), toU8 (IntKind.wrap .u8 (Int.fdiv y2 (2 ^ 16))), toU8 (IntKind.wrap .u8 (Int.fdiv y2 (2 ^ 24)))])) 4)) st kr (.inl kr) r4 r6.src hx5 ?_)
    clear st
    intro a5 c5 m8 w9 hle7 st r7
    have hm := Mem.le_trans hm hle7
    have r4 := r4.mono hle7
    have r6 := r6.mono hle7
    refine WO_seg 2 [(2, .slice a5 (List.length l3) c5), (3, .int .i64 0)] kr kr ?_
    refine WO_end rfl ?_
    have st := st.front1
    have st := st.tail
    refine X_then ?_
    refine W_ret ?_
    obtain rfl := Option.some.inj hr
    refine X_ret [.tmp 2, .tmp 3] [.slice a5 (List.length l3) c5, .int .i64 0] rfl (ResAll.cons (ResAt.tmp kr) (ResAll.cons (ResAt.tmp kr) ResAll.nil)) ?_
    exact ⟨a5, c5, m8, rfl, hm, st, r7⟩
 ·intro K
  clear hrK
  refine WO_seg 1 [(6, .pointer (some ⟨b1, 0, none⟩))] kr kr ?_
  refine WO_one rfl (One_load_row (d := 7) (t := 3) (x := (.tmp 6)) (.int .i64 p0.1) kr rfl (ev (.pointer (some ⟨b1, 0, none⟩))) st hb1 kr ?_)
  refine WO_seg 2 [(9, .bool (decide (p0.1 < 1)))] kr kr ?_
  rcases bcases (decide (p0.1 < 1)) with hc | hc
  ·rw [if_pos hc] at hr
   refine WO_fact (t := 9) (b := true) (decide (p0.1 < 1)) kr hc ?_
   refine WO_seg 4 [(13, .bool true)] kr kr ?_
   obtain rfl := Option.some.inj hr
   exact WO_env _ kr (K _ _ ⟨m1, rfl, hm, st, hb1, r1⟩)
  ·rw [if_neg (not_true hc)] at hr
   refine WO_fact (t := 9) (b := false) (decide (p0.1 < 1)) kr hc ?_
   refine WO_seg 1 [(10, .pointer (some ⟨b1, 0, none⟩))] kr kr ?_
   refine WO_one rfl (One_load_row (d := 11) (t := 3) (x := (.tmp 10)) (.int .i64 p0.1) kr rfl (ev (.pointer (some ⟨b1, 0, none⟩))) st hb1 kr ?_)
   refine WO_seg 2 [(13, .bool (decide (p0.1 > 255)))] kr kr ?_
   obtain rfl := Option.some.inj hr
   exact WO_env _ kr (K _ _ ⟨m1, rfl, hm, st, hb1, r1⟩)
def testgateref07_Encode_L1 (N : Nat) (p0 : (List (ByteArray × ByteArray))) (s1 : List (UInt8) × Int) : Option ((List (UInt8) × Int) ⊕ ((List (UInt8)))) :=
 if (decide (s1.2 < (List.length p0 : Int))) = true then ((idx p0 s1.2).bind fun x1 => (testgateref03_PutText N ([] : List (UInt8)) x1.1).bind fun y2 => (testgateref03_PutText N y2 x1.2).bind fun y3 => (testgateref03_Frame N (1, y3)).bind fun y4 => (appendS 1 s1.1 y4.1).bind fun l1 => some (.inl (l1, IntKind.wrap .i64 (s1.2 + 1)))) else (some (.inr s1.1))
def testgateref07_Encode (N : Nat) (p0 : (List (ByteArray × ByteArray))) : Option (List UInt8 × Int) :=
 (testgateref07_Check N p0).bind fun y1 => if (y1 != 0) = true then (some (([] : List (UInt8)), y1)) else ((loopM (testgateref07_Encode_L1 N p0) N (([] : List (UInt8)), 0)).bind fun o1 => (testgateref03_PutUint N ([] : List (UInt8)) (IntKind.wrap .u64 (List.length p0 : Int))).bind fun y5 => (testgateref03_Frame N (2, y5)).bind fun y6 => (appendS 1 o1 y6.1).bind fun l2 => some (l2, 0))
set_option maxHeartbeats 4000000 in
set_option maxRecDepth 100000 in
theorem testgateref07_Encode_ok {N : Nat} {m : Mem} {own : List Piece} {w : World} {p0 : (List (ByteArray × ByteArray))} {a1 : Option Addr} {c1 : Nat} {r : List UInt8 × Int} (st : St m (own) w) (r1 : RepS (cPair cStr cStr) m a1 c1 p0) (hr : testgateref07_Encode N p0 = some r) : Calls Tryz.prog 6 #[.agg #[.slice a1 (List.length p0) c1]] w fun e w' => ∃ (ra1 : Option Addr) (rc1 : Nat) (m' : Mem), e = .returned (.tuple #[.slice ra1 (List.length r.1) rc1, .int .i64 r.2]) ∧ m.le m' ∧ St m' (.room ra1 (List.length r.1) rc1 5 1 :: own) w' ∧ RepS cU8 m' ra1 rc1 r.1 := by
 unfold testgateref07_Encode at hr
 have hm := m.le_refl
 refine W_calls Tryz.func6 rfl Tryz.ntmps6 [(0, .agg #[.slice a1 (List.length p0) c1])] kr rfl ?_
 refine W_sr (WO_one rfl (One_box (d := 1) (e := 29) (x := (.tmp 0)) (.agg #[.slice a1 (List.length p0) c1]) kr rfl kr st ?_))
 clear st
 intro b1 m1 w1 hle1 st hb1
 have hm := Mem.le_trans hm hle1
 have r1 := r1.mono hle1
 refine WO_seg 2 [] kr kr ?_
 refine WO_et rfl (W_seq ?_)
 refine W_sr (WO_one rfl (One_load_row (d := 12) (t := 29) (x := (.tmp 1)) (.agg #[.slice a1 (List.length p0) c1]) kr rfl (ev (.pointer (some ⟨b1, 0, none⟩))) st hb1 kr ?_))
 replace ⟨y1, hx1, hr⟩ := bindS hr
 refine WO_one rfl (One_fn 13 21 #[.agg #[.slice a1 (List.length p0) c1]] kr rfl ?_)
 refine (testgateref07_Check_ok st r1 hx1).mono ?_
 clear st
 rintro _ w2 ⟨m2, rfl, hle2, st⟩
 refine ⟨_, rfl, ?_⟩
 have hm := Mem.le_trans hm hle2
 have hb1 := hb1.mono hle2
 have r1 := r1.mono hle2
 refine WO_seg 1 [(4, .int .i64 y1)] kr kr ?_
 refine WO_et rfl (W_sr ?_)
 refine WO_seg 2 [(15, .bool (y1 != 0))] kr kr ?_
 refine WO_et rfl (W_cond (y1 != 0) kr ?_ ?_)
 ·intro hc
  rw [if_pos hc] at hr
  refine W_sr (WO_seg 3 [(2, .slice none (List.length ([] : List (UInt8))) 0), (3, .int .i64 y1)] kr kr ?_)
  refine WO_et rfl (W_ret ?_)
  refine X_then_ret ?_
  obtain rfl := Option.some.inj hr
  refine X_ret [.tmp 2, .tmp 3] [.slice none (List.length ([] : List (UInt8))) 0, .int .i64 y1] rfl (ResAll.cons (ResAt.tmp kr) (ResAll.cons (ResAt.tmp kr) ResAll.nil)) ?_
  have st := st.nilroom 5 1
  exact ⟨none, 0, m2, rfl, hm, st, (RepS.nil _ _)⟩
 ·intro hc
  rw [if_neg (not_true hc)] at hr
  refine W_skip ?_
  refine X_then ?_
  refine W_sr (WO_seg 1 [(5, .slice none (List.length ([] : List (UInt8))) 0)] kr kr ?_)
  refine WO_et rfl (W_seq ?_)
  refine W_sr (WO_seg 1 [(17, .pointer (some ⟨b1, 0, none⟩))] kr kr ?_)
  refine WO_one rfl (One_load_row (d := 18) (t := 27) (x := (.tmp 17)) (.slice a1 (List.length p0) c1) kr rfl (ev (.pointer (some ⟨b1, 0, none⟩))) st hb1 kr ?_)
  refine WO_seg 2 [(19, .int .i64 (List.length p0 : Int)), (20, .int .i64 0)] kr kr ?_
  refine WO_et rfl (W_block ?_)
  replace ⟨out1, hr, hrKu1⟩ := bindS hr
  refine W_cut (.exit 0) (fun L' w' => ∃ (o1 : List (UInt8)) (a2 : Option Addr) (c2 : Nat) (m3 : Mem), o1 = out1 ∧ L' = [(1, .pointer (some ⟨b1, 0, none⟩)), (5, .slice a2 (List.length o1) c2)] ∧ m.le m3 ∧ St m3 (.room a2 (List.length o1) c2 5 1 :: own) w' ∧ MRow m3 b1 0 [.slice a1 (List.length p0) c1] ∧ RepS (cPair cStr cStr) m3 a1 c1 p0 ∧ RepS cU8 m3 a2 c2 o1) ?_ ?_
  ·clear hr st
   rintro _ w3 ⟨o1, a2, c2, m3, rfl, rfl, hm, st, hb1, r1, r2⟩
   have hr := hrKu1
   clear hrKu1
   refine X_block_eq ?_
   refine X_then ?_
   refine W_sr (WO_seg 1 [(40, .pointer (some ⟨b1, 0, none⟩))] kr kr ?_)
   refine WO_one rfl (One_load_row (d := 41) (t := 27) (x := (.tmp 40)) (.slice a1 (List.length p0) c1) kr rfl (ev (.pointer (some ⟨b1, 0, none⟩))) st hb1 kr ?_)
   refine WO_seg 2 [(43, .int .u64 (IntKind.wrap .u64 (List.length p0 : Int)))] kr kr ?_
   replace ⟨y5, hx7, hr⟩ := bindS hr
   refine WO_one rfl (One_fn 44 23 #[.slice none (List.length ([] : List (UInt8))) 0, .int .u64 (IntKind.wrap .u64 (List.length p0 : Int))] kr rfl ?_)
   refine (testgateref03_PutUint_ok st (RepS.nil _ _) hx7).mono ?_
   clear st
   rintro _ w12 ⟨a8, c8, m9, rfl, hle7, st, r8⟩
   refine ⟨_, rfl, ?_⟩
   have hm := Mem.le_trans hm hle7
   have hb1 := hb1.mono hle7
   have r1 := r1.mono hle7
   have r2 := r2.mono hle7
   refine WO_seg 1 [(45, .agg #[.int .i64 2, .slice a8 (List.length y5) c8])] kr kr ?_
   replace ⟨y6, hx8, hr⟩ := bindS hr
   refine WO_one rfl (One_fn 46 8 #[.agg #[.int .i64 2, .slice a8 (List.length y5) c8]] kr rfl ?_)
   refine (testgateref03_Frame_ok st r8 hx8).mono ?_
   clear st
   rintro _ w13 ⟨a9, c9, m10, rfl, hle8, st, r9⟩
   refine ⟨_, rfl, ?_⟩
   have hm := Mem.le_trans hm hle8
   have hb1 := hb1.mono hle8
   have r1 := r1.mono hle8
   have r2 := r2.mono hle8
   have r8 := r8.mono hle8
   refine WO_seg 5 [(10, .slice a9 (List.length y6.1) c9)] kr kr ?_
   refine WO_end rfl ?_
   have st := st.front1
   have st := st.tail
   refine X_then ?_
   refine W_sr (WO_seg 2 [(49, .slice a2 (List.length o1) c2), (50, .slice a9 (List.length y6.1) c9)] kr kr ?_)
   have st := st.front1
   replace ⟨l2, hx9, hr⟩ := bindS hr
   refine WO_one rfl (One_append (d := 51) (t := 23) (u := 23) (e := 5) (by_ := 1) (x := (.tmp 49)) (y := (.tmp 50)) cU8 kr rfl (ev (.slice a2 (List.length o1) c2)) (ev (.slice a9 (List.length y6.1) c9)) st kr (.inl kr) r2 r9.src hx9 ?_)
   clear st
   intro a10 c10 m11 w14 hle9 st r10
   have hm := Mem.le_trans hm hle9
   have r2 := r2.mono hle9
   have r9 := r9.mono hle9
   refine WO_seg 2 [(2, .slice a10 (List.length l2) c10), (3, .int .i64 0)] kr kr ?_
   refine WO_end rfl ?_
   have st := st.front1
   have st := st.tail
   refine X_then ?_
   refine W_ret ?_
   obtain rfl := Option.some.inj hr
   refine X_ret [.tmp 2, .tmp 3] [.slice a10 (List.length l2) c10, .int .i64 0] rfl (ResAll.cons (ResAt.tmp kr) (ResAll.cons (ResAt.tmp kr) ResAll.nil)) ?_
   exact ⟨a10, c10, m11, rfl, hm, st, r10⟩
  intro K0_u1
  clear hrKu1
  have st := st.nilroom 5 1
  refine W_env _ kr (W_loop (fun k1 L' w' => ∃ (s1 : List (UInt8) × Int) (a3 : Option Addr) (c3 : Nat) (m4 : Mem), loopM (testgateref07_Encode_L1 N p0) k1 s1 = some out1 ∧ L' = [(1, .pointer (some ⟨b1, 0, none⟩)), (5, .slice a3 (List.length s1.1) c3), (18, .slice a1 (List.length p0) c1), (19, .int .i64 (List.length p0 : Int)), (20, .int .i64 s1.2)] ∧ m.le m4 ∧ St m4 (.room a3 (List.length s1.1) c3 5 1 :: own) w' ∧ MRow m4 b1 0 [.slice a1 (List.length p0) c1] ∧ RepS (cPair cStr cStr) m4 a1 c1 p0 ∧ RepS cU8 m4 a3 c3 s1.1) N ⟨(([] : List (UInt8)), 0), none, 0, m2, hr, rfl, hm, st, hb1, r1, (RepS.nil _ _)⟩ ?_)
  clear st hr
  rintro k1 _ w4 ⟨s1, a3, c3, m4, hL, rfl, hm, st, hb1, r1, r3⟩
  rcases k1 with _ | k1
  ·exact loopM_zero hL
  ·obtain ⟨qu1, hr, hSu1, hBu1⟩ := loopM_succ hL
   clear hL
   unfold testgateref07_Encode_L1 at hr
   refine W_sr (WO_seg 1 [(21, .bool (decide (s1.2 < (List.length p0 : Int))))] kr kr ?_)
   refine WO_et rfl (W_seq ?_)
   refine W_cond (decide (s1.2 < (List.length p0 : Int))) kr ?_ ?_
   ·intro hc
    rw [if_pos hc] at hr
    refine W_skip ?_
    refine X_then ?_
    refine W_seq ?_
    refine W_block ?_
    refine W_sr ?_
    replace ⟨x1, hx2, hr⟩ := bindS hr
    refine WO_one rfl (One_index (d := 22) (t := 27) (e := 46) (x := (.tmp 18)) (y := (.tmp 20)) (cPair cStr cStr) kr rfl (ev (.slice a1 (List.length p0) c1)) (ev (.int .i64 s1.2)) kr r1 hx2 ?_)
    rintro b2 f1 cs1 ⟨_, _, rfl, rfl, rfl⟩ hq1
    refine WO_one rfl (One_load_row (d := 23) (t := 46) (x := (.tmp 22)) (.agg #[.string x1.1, .string x1.2]) kr rfl (ev (.pointer (some ⟨b2, f1, none⟩))) st hq1 kr ?_)
    refine WO_one rfl (One_alloc (d := 7) (e := 46) (.agg #[.string (⟨#[]⟩ : ByteArray), .string (⟨#[]⟩ : ByteArray)]) kr rfl kr st ?_)
    clear st
    intro b3 w5 st
    refine WO_one rfl (One_store (t := 46) (x := (.tmp 7)) (y := (.tmp 23)) (v := .agg #[.string x1.1, .string x1.2]) (c' := #[.string x1.1, .string x1.2]) kr (ev (.pointer (some ⟨b3, 0, none⟩))) (ev (.agg #[.string x1.1, .string x1.2])) st kr kr ?_)
    clear st
    intro w6 st
    refine WO_et rfl (W_seq ?_)
    refine W_draw [(13, fun w' => Inv m4 w' ∧ Piece.holds m4 w' (.blk b3 (.cells #[.string x1.1, .string x1.2] 46 (0, 0))) ∧ True)] kr st ?_
    clear st
    intro w7 _ st
    have hmS1 := m4.le_refl
    refine ⟨⟨.inr ⟨Inv.anti st.inv hmS1, Piece.holds_anti st.head hmS1, trivial⟩, trivial⟩, ?_⟩
    refine WA_pure 0 25 (.pointer (some ⟨b3, 0, none⟩)) kr rfl kr (.head _) (QP_then (QP_block (QP_then (QP_then (QP_block (QP_then QP_body)))))) ?_
    refine WA_load_own (t := 9) (x := (.tmp 25)) 1 26 (.string x1.1) kr rfl kr (.head _) (QP_then (QP_block (QP_then (QP_then (QP_block (QP_then QP_body)))))) (fun _ h => h.2.1) (ev (.pointer (some ⟨b3, 0, none⟩))) kr ?_
    refine WA_pure 3 28 (.pointer (some ⟨b3, 1, none⟩)) kr rfl kr (.head _) (QP_then (QP_block (QP_then (QP_then (QP_block (QP_then QP_body)))))) ?_
    refine WA_load_own (t := 9) (x := (.tmp 28)) 4 29 (.string x1.2) kr rfl kr (.head _) (QP_then (QP_block (QP_then (QP_then (QP_block (QP_then QP_body)))))) (fun _ h => h.2.1) (ev (.pointer (some ⟨b3, 1, none⟩))) kr ?_
    replace ⟨y2, hx3, hr⟩ := bindS hr
    refine WA_one 2 kr  (One_fn 27 22 #[.slice none (List.length ([] : List (UInt8))) 0, .string x1.1] kr rfl ?_)
    refine (testgateref03_PutText_ok st (RepS.nil _ _) hx3).mono ?_
    clear st
    rintro _ w8 ⟨a4, c4, m5, rfl, hle3, st, r4⟩
    refine ⟨_, rfl, ?_⟩
    have hm := Mem.le_trans hm hle3
    have hb1 := hb1.mono hle3
    have r1 := r1.mono hle3
    have r3 := r3.mono hle3
    have hmS1 := Mem.le_trans hmS1 hle3
    refine ⟨⟨.inr ⟨Inv.anti st.inv hmS1, Piece.holds_anti st.tail.head hmS1, trivial⟩, trivial⟩, ?_⟩
    replace ⟨y3, hx4, hr⟩ := bindS hr
    refine WA_one 5 kr  (One_fn 30 22 #[.slice a4 (List.length y2) c4, .string x1.2] kr rfl ?_)
    refine (testgateref03_PutText_ok st r4 hx4).mono ?_
    clear st
    rintro _ w9 ⟨a5, c5, m6, rfl, hle4, st, r5⟩
    refine ⟨_, rfl, ?_⟩
    have hm := Mem.le_trans hm hle4
    have hb1 := hb1.mono hle4
    have r1 := r1.mono hle4
    have r3 := r3.mono hle4
    have r4 := r4.mono hle4
    have hmS1 := Mem.le_trans hmS1 hle4
    refine ⟨⟨.inr ⟨Inv.anti st.inv hmS1, Piece.holds_anti st.tail.tail.head hmS1, trivial⟩, trivial⟩, ?_⟩
    refine WA_pure 6 31 (.agg #[.int .i64 1, .slice a5 (List.length y3) c5]) kr rfl kr (.head _) (QP_then (QP_block (QP_then (QP_then (QP_block (QP_then QP_body)))))) ?_
    replace ⟨y4, hx5, hr⟩ := bindS hr
    refine WA_one 7 kr  (One_fn 32 8 #[.agg #[.int .i64 1, .slice a5 (List.length y3) c5]] kr rfl ?_)
    refine (testgateref03_Frame_ok st r5 hx5).mono ?_
    clear st
    rintro _ w10 ⟨a6, c6, m7, rfl, hle5, st, r6⟩
    refine ⟨_, rfl, ?_⟩
    have hm := Mem.le_trans hm hle5
    have hb1 := hb1.mono hle5
    have r1 := r1.mono hle5
    have r3 := r3.mono hle5
    have r4 := r4.mono hle5
    have r5 := r5.mono hle5
    have hmS1 := Mem.le_trans hmS1 hle5
    refine ⟨⟨.inr ⟨Inv.anti st.inv hmS1, Piece.holds_anti st.tail.tail.tail.head hmS1, trivial⟩, trivial⟩, ?_⟩
    refine WA_pure 8 24 (.tuple #[.slice a6 (List.length y4.1) c6, .int .i64 y4.2]) kr rfl kr (.head _) (QP_then (QP_block (QP_then (QP_then (QP_block (QP_then QP_body)))))) ?_
    refine WA_pure 9 33 (.slice a6 (List.length y4.1) c6) kr rfl kr (.head _) (QP_then (QP_block (QP_then (QP_then (QP_block (QP_then QP_body)))))) ?_
    refine WA_pure 10 34 (.int .i64 y4.2) kr rfl kr (.head _) (QP_then (QP_block (QP_then (QP_then (QP_block (QP_then QP_body)))))) ?_
    refine WA_pure 11 8 (.slice a6 (List.length y4.1) c6) kr rfl kr (.head _) (QP_then (QP_block (QP_then (QP_then (QP_block (QP_then QP_body)))))) ?_
    refine WA_pure 12 9 (.int .i64 y4.2) kr rfl kr (.head _) (QP_then (QP_block (QP_then (QP_then (QP_block (QP_then QP_body)))))) ?_
    refine WA_done kr ?_
    have st := st.front1
    have st := st.tail
    have st := st.front1
    have st := st.tail
    refine X_then ?_
    refine W_region ?_
    refine WO_seg 2 [(35, .slice a3 (List.length s1.1) c3), (36, .slice a6 (List.length y4.1) c6)] kr kr ?_
    have st := st.front2
    replace ⟨l1, hx6, hr⟩ := bindS hr
    refine WO_one rfl (One_append (d := 37) (t := 23) (u := 23) (e := 5) (by_ := 1) (x := (.tmp 35)) (y := (.tmp 36)) cU8 kr rfl (ev (.slice a3 (List.length s1.1) c3)) (ev (.slice a6 (List.length y4.1) c6)) st kr (.inl kr) r3 r6.src hx6 ?_)
    clear st
    intro a7 c7 m8 w11 hle6 st r7
    have hm := Mem.le_trans hm hle6
    have hb1 := hb1.mono hle6
    have r1 := r1.mono hle6
    have r3 := r3.mono hle6
    have r6 := r6.mono hle6
    refine WO_seg 1 [(5, .slice a7 (List.length l1) c7)] kr kr ?_
    refine WO_end rfl ?_
    have st := st.front1
    have st := st.tail
    refine X_block ?_
    refine X_then ?_
    refine W_region ?_
    refine WO_seg 2 [(20, .int .i64 (IntKind.wrap .i64 (s1.2 + 1)))] kr kr ?_
    refine WO_end rfl ?_
    obtain rfl := Option.some.inj hr
    have hL := hSu1 _ rfl
    have st := st.front1
    have st := st.tail
    exact X_env _ kr (X_round k1 (Nat.lt_succ_self _) ⟨(l1, IntKind.wrap .i64 (s1.2 + 1)), a7, c7, m8, hL, rfl, hm, st, hb1, r1, r7⟩)
   ·intro hc
    rw [if_neg (not_true hc)] at hr
    refine W_exit ?_
    refine X_then_exit ?_
    obtain rfl := Option.some.inj hr
    have ho := hBu1 _ rfl
    refine X_then_exit ?_
    exact X_env _ kr (K0_u1 _ _ ⟨s1.1, a3, c3, m4, ho, rfl, hm, st, hb1, r1, r3⟩)
def testgateref03_Same (N : Nat) (p0 : List UInt8) (p1 : List UInt8) : Option (Bool) :=
 some ((strOf p0).toList == (strOf p1).toList)
set_option maxHeartbeats 4000000 in
set_option maxRecDepth 100000 in
theorem testgateref03_Same_ok {N : Nat} {m : Mem} {own : List Piece} {w : World} {p0 : List UInt8} {p1 : List UInt8} {a1 : Option Addr} {c1 : Nat} {a2 : Option Addr} {c2 : Nat} {r : Bool} (st : St m (own) w) (r1 : RepS cU8 m a1 c1 p0) (r2 : RepS cU8 m a2 c2 p1) (hr : testgateref03_Same N p0 p1 = some r) : Calls Tryz.prog 7 #[.slice a1 (List.length p0) c1, .slice a2 (List.length p1) c2] w fun e w' => ∃ (m' : Mem), e = .returned (.bool r) ∧ m.le m' ∧ St m' (own) w' := by
 unfold testgateref03_Same at hr
 have hm := m.le_refl
 refine W_calls Tryz.func7 rfl Tryz.ntmps7 [(0, .slice a1 (List.length p0) c1), (1, .slice a2 (List.length p1) c2)] kr rfl ?_
 refine W_sr (WO_seg 1 [] kr kr ?_)
 refine WO_et rfl (W_sr ?_)
 refine WO_seg 1 [(5, .slice a1 (List.length p0) c1)] kr kr ?_
 refine WO_one rfl (One_bytesStr (d := 6) (t1 := 23) (t2 := 9) (e := 5) (x := (.tmp 5)) kr rfl (ev (.slice a1 (List.length p0) c1)) kr kr st r1 ?_)
 refine WO_seg 1 [(7, .slice a2 (List.length p1) c2)] kr kr ?_
 refine WO_one rfl (One_bytesStr (d := 8) (t1 := 23) (t2 := 9) (e := 5) (x := (.tmp 7)) kr rfl (ev (.slice a2 (List.length p1) c2)) kr kr st r2 ?_)
 refine WO_seg 2 [(4, .bool ((strOf p0).toList == (strOf p1).toList))] kr kr ?_
 refine WO_et rfl (W_ret ?_)
 obtain rfl := Option.some.inj hr
 refine X_ret [.tmp 4] [.bool ((strOf p0).toList == (strOf p1).toList)] rfl (ResAll.cons (ResAt.tmp kr) ResAll.nil) ?_
 exact ⟨m, rfl, hm, st⟩
def wire_Uint_L1 (N : Nat) (p0 : List UInt8) (s1 : Int) : Option ((Int) ⊕ ((Int))) :=
 (if (decide (s1 < (List.length p0 : Int))) = true then ((idx p0 s1).bind fun x1 => some (decide ((x1.toNat : Int) ≥ 128))) else (some false) : Option (Bool)).bind fun o3 => if o3 = true then (some (.inl (IntKind.wrap .i64 (s1 + 1)))) else (some (.inr s1))
def wire_Uint_L2 (N : Nat) (p0 : List UInt8) (p1 : Int) (s2 : Int × Int) : Option ((Int × Int) ⊕ ((Int))) :=
 if (decide (s2.2 ≥ p1)) = true then ((idx p0 s2.2).bind fun x5 => some (.inl (iOr .u64 (IntKind.wrap .u64 (s2.1 * 2 ^ 7)) (IntKind.wrap .u64 (iAnd .u8 (x5.toNat : Int) 127)), IntKind.wrap .i64 (s2.2 - 1)))) else (some (.inr s2.1))
def wire_Uint (N : Nat) (p0 : List UInt8) (p1 : Int) : Option (Int × Int × Int) :=
 (if (decide (p1 < 0)) = true then (some true) else (some (decide (p1 > (List.length p0 : Int)))) : Option (Bool)).bind fun o1 => if o1 = true then (some (0, 0, 3)) else ((loopM (wire_Uint_L1 N p0) N p1).bind fun o2 => if (o2 == (List.length p0 : Int)) = true then (some (0, 0, 7)) else ((if (decide ((IntKind.wrap .i64 ((IntKind.wrap .i64 (o2 - p1)) + 1)) > 10)) = true then (some true) else (if ((IntKind.wrap .i64 ((IntKind.wrap .i64 (o2 - p1)) + 1)) == 10) = true then ((idx p0 o2).bind fun x2 => if (decide ((x2.toNat : Int) > 1)) = true then (some true) else (if (decide ((IntKind.wrap .i64 ((IntKind.wrap .i64 (o2 - p1)) + 1)) > 1)) = true then ((idx p0 o2).bind fun x3 => some ((x3.toNat : Int) == 0)) else (some false))) else (if (decide ((IntKind.wrap .i64 ((IntKind.wrap .i64 (o2 - p1)) + 1)) > 1)) = true then ((idx p0 o2).bind fun x4 => some ((x4.toNat : Int) == 0)) else (some false))) : Option (Bool)).bind fun o4 => if o4 = true then (some (0, 0, 6)) else ((loopM (wire_Uint_L2 N p0 p1) N (0, o2)).bind fun o5 => some (o5, IntKind.wrap .i64 (o2 + 1), 0))))
set_option maxHeartbeats 4000000 in
set_option maxRecDepth 100000 in
theorem wire_Uint_ok {N : Nat} {m : Mem} {own : List Piece} {w : World} {p0 : List UInt8} {p1 : Int} {a1 : Option Addr} {c1 : Nat} {r : Int × Int × Int} (st : St m (own) w) (r1 : RepS cU8 m a1 c1 p0) (hr : wire_Uint N p0 p1 = some r) : Calls Tryz.prog 63 #[.slice a1 (List.length p0) c1, .int .i64 p1] w fun e w' => ∃ (m' : Mem), e = .returned (.tuple #[.int .u64 r.1, .int .i64 r.2.1, .int .i64 r.2.2]) ∧ m.le m' ∧ St m' (own) w' := by
 unfold wire_Uint at hr
 have hm := m.le_refl
 refine W_calls Tryz.func63 rfl Tryz.ntmps63 [(0, .slice a1 (List.length p0) c1), (1, .int .i64 p1)] kr rfl ?_
 refine W_sr (WO_seg 3 [(4, .int .u64 0)] kr kr ?_)
 refine WO_et rfl (W_seq ?_)
 refine W_sr ?_
 replace ⟨o1, hr, hrK⟩ := bindS hr
 refine WO_cut (j := 8) (fun L' w' => ∃ (m1 : Mem), L' = [(0, .slice a1 (List.length p0) c1), (1, .int .i64 p1), (4, .int .u64 0), (17, .bool o1)] ∧ m.le m1 ∧ St m1 (own) w' ∧ RepS cU8 m1 a1 c1 p0) ?_ ?_
 ·clear hr st
  have hr := hrK
  clear hrK
  rintro _ w1 ⟨m1, rfl, hm, st, r1⟩
  refine WO_et rfl (W_cond o1 kr ?_ ?_)
  ·intro hc
   rw [if_pos hc] at hr
   refine W_sr (WO_seg 3 [(4, .int .u64 0), (5, .int .i64 0), (6, .int .i64 3)] kr kr ?_)
   refine WO_et rfl (W_ret ?_)
   refine X_then_ret ?_
   obtain rfl := Option.some.inj hr
   refine X_ret [.tmp 4, .tmp 5, .tmp 6] [.int .u64 0, .int .i64 0, .int .i64 3] rfl (ResAll.cons (ResAt.tmp kr) (ResAll.cons (ResAt.tmp kr) (ResAll.cons (ResAt.tmp kr) ResAll.nil))) ?_
   exact ⟨m1, rfl, hm, st⟩
  ·intro hc
   rw [if_neg (not_true hc)] at hr
   refine W_skip ?_
   refine X_then ?_
   refine W_sr (WO_seg 2 [(7, .int .i64 p1)] kr kr ?_)
   refine WO_et rfl (W_seq ?_)
   refine W_block ?_
   replace ⟨out1, hr, hrKu1⟩ := bindS hr
   refine W_cut (.exit 0) (fun L' w' => ∃ (o2 : Int) (m2 : Mem), o2 = out1 ∧ L' = [(0, .slice a1 (List.length p0) c1), (1, .int .i64 p1), (4, .int .u64 0), (7, .int .i64 o2)] ∧ m.le m2 ∧ St m2 (own) w' ∧ RepS cU8 m2 a1 c1 p0) ?_ ?_
   ·clear hr st
    rintro _ w2 ⟨o2, m2, rfl, rfl, hm, st, r1⟩
    have hr := hrKu1
    clear hrKu1
    refine X_block_eq ?_
    refine X_then ?_
    refine W_sr (WO_seg 5 [(8, .int .i64 (IntKind.wrap .i64 ((IntKind.wrap .i64 (o2 - p1)) + 1)))] kr kr ?_)
    refine WO_et rfl (W_seq ?_)
    refine W_block ?_
    refine W_sr (WO_seg 5 [(36, .bool (o2 == (List.length p0 : Int)))] kr kr ?_)
    refine WO_et rfl (W_cond (o2 == (List.length p0 : Int)) kr ?_ ?_)
    ·intro hc
     rw [if_pos hc] at hr
     refine W_sr (WO_seg 3 [(4, .int .u64 0), (5, .int .i64 0), (6, .int .i64 7)] kr kr ?_)
     refine WO_et rfl (W_ret ?_)
     refine X_block_ret ?_
     refine X_then_ret ?_
     obtain rfl := Option.some.inj hr
     refine X_ret [.tmp 4, .tmp 5, .tmp 6] [.int .u64 0, .int .i64 0, .int .i64 7] rfl (ResAll.cons (ResAt.tmp kr) (ResAll.cons (ResAt.tmp kr) (ResAll.cons (ResAt.tmp kr) ResAll.nil))) ?_
     exact ⟨m2, rfl, hm, st⟩
    ·intro hc
     rw [if_neg (not_true hc)] at hr
     refine W_sr ?_
     replace ⟨o4, hr, hrK⟩ := bindS hr
     refine WO_cut (j := 25) (fun L' w' => ∃ (m5 : Mem), L' = [(0, .slice a1 (List.length p0) c1), (1, .int .i64 p1), (4, .int .u64 0), (7, .int .i64 o2), (41, .bool o4)] ∧ m.le m5 ∧ St m5 (own) w' ∧ RepS cU8 m5 a1 c1 p0) ?_ ?_
     ·clear hr st
      have hr := hrK
      clear hrK
      rintro _ w5 ⟨m5, rfl, hm, st, r1⟩
      refine WO_et rfl (W_cond o4 kr ?_ ?_)
      ·intro hc
       rw [if_pos hc] at hr
       refine W_sr (WO_seg 3 [(4, .int .u64 0), (5, .int .i64 0), (6, .int .i64 6)] kr kr ?_)
       refine WO_et rfl (W_ret ?_)
       refine X_block_ret ?_
       refine X_then_ret ?_
       obtain rfl := Option.some.inj hr
       refine X_ret [.tmp 4, .tmp 5, .tmp 6] [.int .u64 0, .int .i64 0, .int .i64 6] rfl (ResAll.cons (ResAt.tmp kr) (ResAll.cons (ResAt.tmp kr) (ResAll.cons (ResAt.tmp kr) ResAll.nil))) ?_
       exact ⟨m5, rfl, hm, st⟩
      ·intro hc
       rw [if_neg (not_true hc)] at hr
       refine W_skip ?_
       refine X_block ?_
       refine X_then ?_
       refine W_seq ?_
       refine W_sr (WO_seg 2 [(9, .int .i64 o2)] kr kr ?_)
       refine WO_et rfl (W_block ?_)
       replace ⟨out2, hr, hrKu3⟩ := bindS hr
       refine W_cut (.exit 3) (fun L' w' => ∃ (o5 : Int) (m6 : Mem), o5 = out2 ∧ L' = [(4, .int .u64 o5), (7, .int .i64 o2)] ∧ m.le m6 ∧ St m6 (own) w') ?_ ?_
       ·clear hr st
        rintro _ w6 ⟨o5, m6, rfl, rfl, hm, st⟩
        have hr := hrKu3
        clear hrKu3
        refine X_block_eq ?_
        refine X_then ?_
        refine W_sr (WO_seg 6 [(4, .int .u64 o5), (5, .int .i64 (IntKind.wrap .i64 (o2 + 1))), (6, .int .i64 0)] kr kr ?_)
        refine WO_et rfl (W_ret ?_)
        obtain rfl := Option.some.inj hr
        refine X_ret [.tmp 4, .tmp 5, .tmp 6] [.int .u64 o5, .int .i64 (IntKind.wrap .i64 (o2 + 1)), .int .i64 0] rfl (ResAll.cons (ResAt.tmp kr) (ResAll.cons (ResAt.tmp kr) (ResAll.cons (ResAt.tmp kr) ResAll.nil))) ?_
        exact ⟨m6, rfl, hm, st⟩
       intro K3_u3
       clear hrKu3
       refine W_env _ kr (W_loop (fun k2 L' w' => ∃ (s2 : Int × Int) (m7 : Mem), loopM (wire_Uint_L2 N p0 p1) k2 s2 = some out2 ∧ L' = [(0, .slice a1 (List.length p0) c1), (1, .int .i64 p1), (4, .int .u64 s2.1), (7, .int .i64 o2), (9, .int .i64 s2.2)] ∧ m.le m7 ∧ St m7 (own) w' ∧ RepS cU8 m7 a1 c1 p0) N ⟨(0, o2), m5, hr, rfl, hm, st, r1⟩ ?_)
       clear st hr
       rintro k2 _ w7 ⟨s2, m7, hL, rfl, hm, st, r1⟩
       rcases k2 with _ | k2
       ·exact loopM_zero hL
       ·obtain ⟨qu3, hr, hSu3, hBu3⟩ := loopM_succ hL
        clear hL
        unfold wire_Uint_L2 at hr
        refine W_seq ?_
        refine W_sr (WO_seg 3 [(69, .bool (decide (s2.2 ≥ p1)))] kr kr ?_)
        refine WO_et rfl (W_cond (decide (s2.2 ≥ p1)) kr ?_ ?_)
        ·intro hc
         rw [if_pos hc] at hr
         refine W_skip ?_
         refine X_then ?_
         refine W_seq ?_
         refine W_block ?_
         refine W_region ?_
         refine WO_seg 4 [(73, .int .u64 (IntKind.wrap .u64 (s2.1 * 2 ^ 7))), (74, .slice a1 (List.length p0) c1), (75, .int .i64 s2.2)] kr kr ?_
         replace ⟨x5, hx5, hr⟩ := bindS hr
         refine WO_one rfl (One_index (d := 76) (t := 23) (e := 5) (x := (.tmp 74)) (y := (.tmp 75)) cU8 kr rfl (ev (.slice a1 (List.length p0) c1)) (ev (.int .i64 s2.2)) kr r1 hx5 ?_)
         rintro b5 f5 cs5 rfl hq5
         refine WO_one rfl (One_load_row (d := 77) (t := 5) (x := (.tmp 76)) (.int .u8 (x5.toNat : Int)) kr rfl (ev (.pointer (some ⟨b5, f5, none⟩))) st hq5 kr ?_)
         refine WO_seg 4 [(4, .int .u64 (iOr .u64 (IntKind.wrap .u64 (s2.1 * 2 ^ 7)) (IntKind.wrap .u64 (iAnd .u8 (x5.toNat : Int) 127))))] kr kr ?_
         refine WO_end rfl ?_
         refine X_block ?_
         refine X_then ?_
         refine W_region ?_
         refine WO_seg 3 [(9, .int .i64 (IntKind.wrap .i64 (s2.2 - 1)))] kr kr ?_
         refine WO_end rfl ?_
         obtain rfl := Option.some.inj hr
         have hL := hSu3 _ rfl
         exact X_env _ kr (X_round k2 (Nat.lt_succ_self _) ⟨(iOr .u64 (IntKind.wrap .u64 (s2.1 * 2 ^ 7)) (IntKind.wrap .u64 (iAnd .u8 (x5.toNat : Int) 127)), IntKind.wrap .i64 (s2.2 - 1)), m7, hL, rfl, hm, st, r1⟩)
        ·intro hc
         rw [if_neg (not_true hc)] at hr
         refine W_exit ?_
         refine X_then_exit ?_
         obtain rfl := Option.some.inj hr
         have ho := hBu3 _ rfl
         refine X_then_exit ?_
         exact X_env _ kr (K3_u3 _ _ ⟨s2.1, m7, ho, rfl, hm, st⟩)
     ·intro K
      clear hrK
      refine WO_seg 3 [(44, .bool (decide ((IntKind.wrap .i64 ((IntKind.wrap .i64 (o2 - p1)) + 1)) > 10)))] kr kr ?_
      rcases bcases (decide ((IntKind.wrap .i64 ((IntKind.wrap .i64 (o2 - p1)) + 1)) > 10)) with hc | hc
      ·rw [if_pos hc] at hr
       refine WO_fact (t := 44) (b := true) (decide ((IntKind.wrap .i64 ((IntKind.wrap .i64 (o2 - p1)) + 1)) > 10)) kr hc ?_
       refine WO_seg 22 [(41, .bool true)] kr kr ?_
       obtain rfl := Option.some.inj hr
       exact WO_env _ kr (K _ _ ⟨m2, rfl, hm, st, r1⟩)
      ·rw [if_neg (not_true hc)] at hr
       refine WO_fact (t := 44) (b := false) (decide ((IntKind.wrap .i64 ((IntKind.wrap .i64 (o2 - p1)) + 1)) > 10)) kr hc ?_
       refine WO_seg 3 [(47, .bool ((IntKind.wrap .i64 ((IntKind.wrap .i64 (o2 - p1)) + 1)) == 10))] kr kr ?_
       rcases bcases ((IntKind.wrap .i64 ((IntKind.wrap .i64 (o2 - p1)) + 1)) == 10) with hc | hc
       ·rw [if_pos hc] at hr
        refine WO_fact (t := 47) (b := true) ((IntKind.wrap .i64 ((IntKind.wrap .i64 (o2 - p1)) + 1)) == 10) kr hc ?_
        refine WO_seg 2 [(48, .slice a1 (List.length p0) c1), (49, .int .i64 o2)] kr kr ?_
        replace ⟨x2, hx2, hr⟩ := bindS hr
        refine WO_one rfl (One_index (d := 50) (t := 23) (e := 5) (x := (.tmp 48)) (y := (.tmp 49)) cU8 kr rfl (ev (.slice a1 (List.length p0) c1)) (ev (.int .i64 o2)) kr r1 hx2 ?_)
        rintro b2 f2 cs2 rfl hq2
        refine WO_one rfl (One_load_row (d := 51) (t := 5) (x := (.tmp 50)) (.int .u8 (x2.toNat : Int)) kr rfl (ev (.pointer (some ⟨b2, f2, none⟩))) st hq2 kr ?_)
        refine WO_seg 4 [(55, .bool (decide ((x2.toNat : Int) > 1)))] kr kr ?_
        rcases bcases (decide ((x2.toNat : Int) > 1)) with hc | hc
        ·rw [if_pos hc] at hr
         refine WO_fact (t := 55) (b := true) (decide ((x2.toNat : Int) > 1)) kr hc ?_
         refine WO_seg 11 [(41, .bool true)] kr kr ?_
         obtain rfl := Option.some.inj hr
         exact WO_env _ kr (K _ _ ⟨m2, rfl, hm, st, r1⟩)
        ·rw [if_neg (not_true hc)] at hr
         refine WO_fact (t := 55) (b := false) (decide ((x2.toNat : Int) > 1)) kr hc ?_
         refine WO_seg 3 [(58, .bool (decide ((IntKind.wrap .i64 ((IntKind.wrap .i64 (o2 - p1)) + 1)) > 1)))] kr kr ?_
         rcases bcases (decide ((IntKind.wrap .i64 ((IntKind.wrap .i64 (o2 - p1)) + 1)) > 1)) with hc | hc
         ·rw [if_pos hc] at hr
          refine WO_fact (t := 58) (b := true) (decide ((IntKind.wrap .i64 ((IntKind.wrap .i64 (o2 - p1)) + 1)) > 1)) kr hc ?_
          refine WO_seg 2 [(59, .slice a1 (List.length p0) c1), (60, .int .i64 o2)] kr kr ?_
          replace ⟨x3, hx3, hr⟩ := bindS hr
          refine WO_one rfl (One_index (d := 61) (t := 23) (e := 5) (x := (.tmp 59)) (y := (.tmp 60)) cU8 kr rfl (ev (.slice a1 (List.length p0) c1)) (ev (.int .i64 o2)) kr r1 hx3 ?_)
          rintro b3 f3 cs3 rfl hq3
          refine WO_one rfl (One_load_row (d := 62) (t := 5) (x := (.tmp 61)) (.int .u8 (x3.toNat : Int)) kr rfl (ev (.pointer (some ⟨b3, f3, none⟩))) st hq3 kr ?_)
          refine WO_seg 4 [(41, .bool ((x3.toNat : Int) == 0))] kr kr ?_
          obtain rfl := Option.some.inj hr
          exact WO_env _ kr (K _ _ ⟨m2, rfl, hm, st, r1⟩)
         ·rw [if_neg (not_true hc)] at hr
          refine WO_fact (t := 58) (b := false) (decide ((IntKind.wrap .i64 ((IntKind.wrap .i64 (o2 - p1)) + 1)) > 1)) kr hc ?_
          refine WO_seg 8 [(41, .bool false)] kr kr ?_
          obtain rfl := Option.some.inj hr
          exact WO_env _ kr (K _ _ ⟨m2, rfl, hm, st, r1⟩)
       ·rw [if_neg (not_true hc)] at hr
        refine WO_fact (t := 47) (b := false) ((IntKind.wrap .i64 ((IntKind.wrap .i64 (o2 - p1)) + 1)) == 10) kr hc ?_
        refine WO_seg 11 [(55, .bool false), (58, .bool (decide ((IntKind.wrap .i64 ((IntKind.wrap .i64 (o2 - p1)) + 1)) > 1)))] kr kr ?_
        rcases bcases (decide ((IntKind.wrap .i64 ((IntKind.wrap .i64 (o2 - p1)) + 1)) > 1)) with hc | hc
        ·rw [if_pos hc] at hr
         refine WO_fact (t := 58) (b := true) (decide ((IntKind.wrap .i64 ((IntKind.wrap .i64 (o2 - p1)) + 1)) > 1)) kr hc ?_
         refine WO_seg 2 [(59, .slice a1 (List.length p0) c1), (60, .int .i64 o2)] kr kr ?_
         replace ⟨x4, hx4, hr⟩ := bindS hr
         refine WO_one rfl (One_index (d := 61) (t := 23) (e := 5) (x := (.tmp 59)) (y := (.tmp 60)) cU8 kr rfl (ev (.slice a1 (List.length p0) c1)) (ev (.int .i64 o2)) kr r1 hx4 ?_)
         rintro b4 f4 cs4 rfl hq4
         refine WO_one rfl (One_load_row (d := 62) (t := 5) (x := (.tmp 61)) (.int .u8 (x4.toNat : Int)) kr rfl (ev (.pointer (some ⟨b4, f4, none⟩))) st hq4 kr ?_)
         refine WO_seg 4 [(41, .bool ((x4.toNat : Int) == 0))] kr kr ?_
         obtain rfl := Option.some.inj hr
         exact WO_env _ kr (K _ _ ⟨m2, rfl, hm, st, r1⟩)
        ·rw [if_neg (not_true hc)] at hr
         refine WO_fact (t := 58) (b := false) (decide ((IntKind.wrap .i64 ((IntKind.wrap .i64 (o2 - p1)) + 1)) > 1)) kr hc ?_
         refine WO_seg 8 [(41, .bool false)] kr kr ?_
         obtain rfl := Option.some.inj hr
         exact WO_env _ kr (K _ _ ⟨m2, rfl, hm, st, r1⟩)
   intro K0_u1
   clear hrKu1
   refine W_env _ kr (W_loop (fun k1 L' w' => ∃ (s1 : Int) (m3 : Mem), loopM (wire_Uint_L1 N p0) k1 s1 = some out1 ∧ L' = [(0, .slice a1 (List.length p0) c1), (1, .int .i64 p1), (4, .int .u64 0), (7, .int .i64 s1)] ∧ m.le m3 ∧ St m3 (own) w' ∧ RepS cU8 m3 a1 c1 p0) N ⟨p1, m1, hr, rfl, hm, st, r1⟩ ?_)
   clear st hr
   rintro k1 _ w3 ⟨s1, m3, hL, rfl, hm, st, r1⟩
   rcases k1 with _ | k1
   ·exact loopM_zero hL
   ·obtain ⟨qu1, hr, hSu1, hBu1⟩ := loopM_succ hL
    clear hL
    unfold wire_Uint_L1 at hr
    refine W_seq ?_
    refine W_sr ?_
    replace ⟨o3, hr, hrK⟩ := bindS hr
    refine WO_cut (j := 11) (fun L' w' => ∃ (m4 : Mem), L' = [(0, .slice a1 (List.length p0) c1), (1, .int .i64 p1), (4, .int .u64 0), (7, .int .i64 s1), (29, .bool o3)] ∧ m.le m4 ∧ St m4 (own) w' ∧ RepS cU8 m4 a1 c1 p0) ?_ ?_
    ·clear hr st
     have hr := hrK
     clear hrK
     rintro _ w4 ⟨m4, rfl, hm, st, r1⟩
     refine WO_et rfl (W_cond o3 kr ?_ ?_)
     ·intro hc
      rw [if_pos hc] at hr
      refine W_skip ?_
      refine X_then ?_
      refine W_block ?_
      refine W_region ?_
      refine WO_seg 3 [(7, .int .i64 (IntKind.wrap .i64 (s1 + 1)))] kr kr ?_
      refine WO_end rfl ?_
      refine X_block ?_
      obtain rfl := Option.some.inj hr
      have hL := hSu1 _ rfl
      exact X_env _ kr (X_round k1 (Nat.lt_succ_self _) ⟨IntKind.wrap .i64 (s1 + 1), m4, hL, rfl, hm, st, r1⟩)
     ·intro hc
      rw [if_neg (not_true hc)] at hr
      refine W_exit ?_
      refine X_then_exit ?_
      obtain rfl := Option.some.inj hr
      have ho := hBu1 _ rfl
      refine X_then_exit ?_
      exact X_env _ kr (K0_u1 _ _ ⟨s1, m4, ho, rfl, hm, st, r1⟩)
    ·intro K
     clear hrK
     refine WO_seg 5 [(23, .bool (decide (s1 < (List.length p0 : Int))))] kr kr ?_
     rcases bcases (decide (s1 < (List.length p0 : Int))) with hc | hc
     ·rw [if_pos hc] at hr
      refine WO_fact (t := 23) (b := true) (decide (s1 < (List.length p0 : Int))) kr hc ?_
      refine WO_seg 2 [(24, .slice a1 (List.length p0) c1), (25, .int .i64 s1)] kr kr ?_
      replace ⟨x1, hx1, hr⟩ := bindS hr
      refine WO_one rfl (One_index (d := 26) (t := 23) (e := 5) (x := (.tmp 24)) (y := (.tmp 25)) cU8 kr rfl (ev (.slice a1 (List.length p0) c1)) (ev (.int .i64 s1)) kr r1 hx1 ?_)
      rintro b1 f1 cs1 rfl hq1
      refine WO_one rfl (One_load_row (d := 27) (t := 5) (x := (.tmp 26)) (.int .u8 (x1.toNat : Int)) kr rfl (ev (.pointer (some ⟨b1, f1, none⟩))) st hq1 kr ?_)
      refine WO_seg 2 [(29, .bool (decide ((x1.toNat : Int) ≥ 128)))] kr kr ?_
      obtain rfl := Option.some.inj hr
      exact WO_env _ kr (K _ _ ⟨m3, rfl, hm, st, r1⟩)
     ·rw [if_neg (not_true hc)] at hr
      refine WO_fact (t := 23) (b := false) (decide (s1 < (List.length p0 : Int))) kr hc ?_
      refine WO_seg 6 [(29, .bool false)] kr kr ?_
      obtain rfl := Option.some.inj hr
      exact WO_env _ kr (K _ _ ⟨m3, rfl, hm, st, r1⟩)
 ·intro K
  clear hrK
  refine WO_seg 3 [(12, .bool (decide (p1 < 0)))] kr kr ?_
  rcases bcases (decide (p1 < 0)) with hc | hc
  ·rw [if_pos hc] at hr
   refine WO_fact (t := 12) (b := true) (decide (p1 < 0)) kr hc ?_
   refine WO_seg 5 [(17, .bool true)] kr kr ?_
   obtain rfl := Option.some.inj hr
   exact WO_env _ kr (K _ _ ⟨m, rfl, hm, st, r1⟩)
  ·rw [if_neg (not_true hc)] at hr
   refine WO_fact (t := 12) (b := false) (decide (p1 < 0)) kr hc ?_
   refine WO_seg 5 [(17, .bool (decide (p1 > (List.length p0 : Int))))] kr kr ?_
   obtain rfl := Option.some.inj hr
   exact WO_env _ kr (K _ _ ⟨m, rfl, hm, st, r1⟩)
def wire_Next (N : Nat) (p0 : List UInt8) (p1 : Int) : Option ((Int × List UInt8) × Int × Int) :=
 (if (decide (p1 < 0)) = true then (some true) else (some (decide (p1 > (List.length p0 : Int)))) : Option (Bool)).bind fun o1 => if o1 = true then (some ((0, ([] : List (UInt8))), 0, 3)) else ((if (p1 == (List.length p0 : Int)) = true then (some (0, 7)) else ((idx p0 p1).bind fun x1 => if ((x1.toNat : Int) != 247) = true then (some (0, 6)) else (some (IntKind.wrap .i64 (p1 + 1), 0))) : Option (Int × Int)).bind fun o2 => if (o2.2 != 0) = true then (some ((0, ([] : List (UInt8))), 0, o2.2)) else ((if (o2.1 == (List.length p0 : Int)) = true then (some (0, 7, 0)) else ((idx p0 o2.1).bind fun x2 => if ((x2.toNat : Int) == 0) = true then (some (0, 6, 0)) else ((idx p0 o2.1).bind fun x3 => some (IntKind.wrap .i64 (o2.1 + 1), 0, IntKind.wrap .i64 (x3.toNat : Int)))) : Option (Int × Int × Int)).bind fun o3 => if (o3.2.1 != 0) = true then (some ((0, ([] : List (UInt8))), 0, o3.2.1)) else (((wire_Uint N p0 o3.1).bind fun y1 => if (y1.2.2 != 0) = true then (some (0, y1.2.2, ([] : List (UInt8)))) else (if (decide (y1.1 > 2097152)) = true then (some (0, 2, ([] : List (UInt8)))) else (if (decide ((IntKind.wrap .i64 ((IntKind.wrap .i64 y1.1) + 4)) > (IntKind.wrap .i64 ((List.length p0 : Int) - y1.2.1)))) = true then (some (0, 7, ([] : List (UInt8)))) else ((subS p0 y1.2.1 (IntKind.wrap .i64 (y1.2.1 + (IntKind.wrap .i64 y1.1)))).bind fun l1 => (appendS 1 ([] : List (UInt8)) l1).bind fun l2 => some (IntKind.wrap .i64 (y1.2.1 + (IntKind.wrap .i64 y1.1)), 0, l2)))) : Option (Int × Int × List (UInt8))).bind fun o4 => if (o4.2.1 != 0) = true then (some ((0, ([] : List (UInt8))), 0, o4.2.1)) else (((idx p0 o4.1).bind fun x4 => (idx p0 (IntKind.wrap .i64 (o4.1 + 1))).bind fun x5 => (idx p0 (IntKind.wrap .i64 (o4.1 + 2))).bind fun x6 => (idx p0 (IntKind.wrap .i64 (o4.1 + 3))).bind fun x7 => (subS p0 (IntKind.wrap .i64 (p1 + 1)) o4.1).bind fun l3 => (wire_Checksum N l3).bind fun y2 => if ((iOr .u32 (iOr .u32 (iOr .u32 (IntKind.wrap .u32 (x4.toNat : Int)) (IntKind.wrap .u32 ((IntKind.wrap .u32 (x5.toNat : Int)) * 2 ^ 8))) (IntKind.wrap .u32 ((IntKind.wrap .u32 (x6.toNat : Int)) * 2 ^ 16))) (IntKind.wrap .u32 ((IntKind.wrap .u32 (x7.toNat : Int)) * 2 ^ 24))) != y2) = true then (some (0, 8)) else (some (IntKind.wrap .i64 (o4.1 + 4), 0)) : Option (Int × Int)).bind fun o5 => if (o5.2 != 0) = true then (some ((0, ([] : List (UInt8))), 0, o5.2)) else (some ((o3.2.2, o4.2.2), o5.1, 0))))))
set_option maxHeartbeats 4000000 in
set_option maxRecDepth 100000 in
theorem wire_Next_ok {N : Nat} {m : Mem} {own : List Piece} {w : World} {p0 : List UInt8} {p1 : Int} {a1 : Option Addr} {c1 : Nat} {r : (Int × List UInt8) × Int × Int} (st : St m (own) w) (r1 : RepS cU8 m a1 c1 p0) (hr : wire_Next N p0 p1 = some r) : Calls Tryz.prog 79 #[.slice a1 (List.length p0) c1, .int .i64 p1] w fun e w' => ∃ (ra1 : Option Addr) (rc1 : Nat) (m' : Mem), e = .returned (.tuple #[.agg #[.int .i64 r.1.1, .slice ra1 (List.length r.1.2) rc1], .int .i64 r.2.1, .int .i64 r.2.2]) ∧ m.le m' ∧ St m' (.room ra1 (List.length r.1.2) rc1 5 1 :: own) w' ∧ RepS cU8 m' ra1 rc1 r.1.2 := by
 unfold wire_Next at hr
 have hm := m.le_refl
 refine W_calls Tryz.func79 rfl Tryz.ntmps79 [(0, .slice a1 (List.length p0) c1), (1, .int .i64 p1)] kr rfl ?_
 refine W_sr (WO_one rfl (One_alloc (d := 4) (e := 37) (.agg #[.int .i64 0, .slice none 0 0]) kr rfl kr st ?_))
 clear st
 intro b1 w1 st
 refine WO_seg 2 [] kr kr ?_
 refine WO_et rfl (W_seq ?_)
 refine W_sr ?_
 replace ⟨o1, hr, hrK⟩ := bindS hr
 refine WO_cut (j := 8) (fun L' w' => ∃ (m1 : Mem), L' = [(0, .slice a1 (List.length p0) c1), (1, .int .i64 p1), (4, .pointer (some ⟨b1, 0, none⟩)), (16, .bool o1)] ∧ m.le m1 ∧ St m1 (.blk b1 (.cells #[.int .i64 0, .slice none (List.length ([] : List (UInt8))) 0] 37 (0, 0)) :: own) w' ∧ RepS cU8 m1 a1 c1 p0) ?_ ?_
 ·clear hr st
  have hr := hrK
  clear hrK
  rintro _ w2 ⟨m1, rfl, hm, st, r1⟩
  refine WO_et rfl (W_cond o1 kr ?_ ?_)
  ·intro hc
   rw [if_pos hc] at hr
   refine W_sr (WO_seg 1 [(17, .agg #[.int .i64 0, .slice none (List.length ([] : List (UInt8))) 0])] kr kr ?_)
   refine WO_one rfl (One_store (t := 37) (x := (.tmp 4)) (y := (.tmp 17)) (v := .agg #[.int .i64 0, .slice none (List.length ([] : List (UInt8))) 0]) (c' := #[.int .i64 0, .slice none (List.length ([] : List (UInt8))) 0]) kr (ev (.pointer (some ⟨b1, 0, none⟩))) (ev (.agg #[.int .i64 0, .slice none (List.length ([] : List (UInt8))) 0])) st kr kr ?_)
   clear st
   intro w3 st
   refine WO_seg 2 [(5, .int .i64 0), (6, .int .i64 3)] kr kr ?_
   refine WO_et rfl (W_ret ?_)
   refine X_then_ret ?_
   obtain rfl := Option.some.inj hr
   refine X_ret [.cell 4 37, .tmp 5, .tmp 6] [.agg #[.int .i64 0, .slice none (List.length ([] : List (UInt8))) 0], .int .i64 0, .int .i64 3] rfl (ResAll.cons (ResAt.blk (v := .agg #[.int .i64 0, .slice none (List.length ([] : List (UInt8))) 0]) (o := 0) kr st.head kr) (ResAll.cons (ResAt.tmp kr) (ResAll.cons (ResAt.tmp kr) ResAll.nil))) ?_
   have st := st.nilroom 5 1
   have st := st.front1
   have st := st.tail
   exact ⟨none, 0, m1, rfl, hm, st, (RepS.nil _ _)⟩
  ·intro hc
   rw [if_neg (not_true hc)] at hr
   refine W_skip ?_
   refine X_then ?_
   refine W_sr (WO_seg 2 [(5, .int .i64 p1)] kr kr ?_)
   refine WO_et rfl (W_seq ?_)
   refine W_sr (WO_seg 1 [(19, .int .i64 p1)] kr kr ?_)
   refine WO_one rfl (One_fn 20 88 #[.int .i64 p1] kr rfl ?_)
   refine W_calls Tryz.func88 rfl Tryz.ntmps88 [(0, .int .i64 p1)] kr rfl ?_
   refine W_sr (WO_one rfl (One_box_own (d := 1) (e := 3) (x := (.tmp 0)) (.int .i64 p1) kr rfl kr st ?_))
   clear st
   intro b2 w4 st
   refine WO_seg 1 [] kr kr ?_
   refine WO_et rfl (W_sr ?_)
   refine WO_seg 5 [(3, .agg #[.func (.func 94) #[] #[]]), (4, .agg #[.func (.func 95) #[] #[]]), (5, .agg #[.func (.func 96) #[] #[]]), (7, .agg #[.func (.func 97) #[] #[.pointer (some ⟨b2, 0, none⟩)]])] kr kr ?_
   refine WO_one rfl (One_buildRaw (d := 8) (t := 113) (e := 117) (len := 4) (parts := #[(0, (.tmp 3)), (1, (.tmp 4)), (2, (.tmp 5)), (3, (.tmp 7))]) [.func (.func 94) #[] #[], .func (.func 95) #[] #[], .func (.func 96) #[] #[], .func (.func 97) #[] #[.pointer (some ⟨b2, 0, none⟩)]] kr rfl (fun _ => buildCells_run kr _) st ?_)
   clear st
   intro b3 m3 w5 hle2 st hb2
   have hm := Mem.le_trans hm hle2
   have r1 := r1.mono hle2
   refine WO_seg 1 [(2, .slice (some ⟨b3, 0, none⟩) 4 4)] kr kr ?_
   refine WO_et rfl (W_ret ?_)
   refine X_ret [.tmp 2] [.slice (some ⟨b3, 0, none⟩) 4 4] rfl (ResAll.cons (ResAt.tmp kr) ResAll.nil) ?_
   refine ⟨_, rfl, ?_⟩
   refine WO_seg 2 [(21, .int .i64 4), (22, .int .i64 0)] kr kr ?_
   refine WO_et rfl (W_block ?_)
   refine W_unroll 6 ?_
   refine WR_succ ?_
   refine W_sr (WO_seg 1 [(23, .bool true)] kr kr ?_)
   refine WO_et rfl (W_seq ?_)
   refine W_cond true kr ?_ (fun h => Bool.noConfusion h)
   intro _
   refine W_skip ?_
   refine X_then ?_
   refine W_seq ?_
   refine W_block ?_
   refine W_sr (WO_seg 1 [(24, .pointer (some ⟨b3, 0, none⟩))] kr kr ?_)
   refine WO_one rfl (One_load_row (d := 25) (t := 117) (x := (.tmp 24)) (.agg #[.func (.func 94) #[] #[]]) kr rfl (ev (.pointer (some ⟨b3, 0, none⟩))) st hb2 kr ?_)
   refine WO_one rfl (One_alloc (d := 8) (e := 117) (.agg #[.nilFunc]) kr rfl kr st ?_)
   clear st
   intro b4 w6 st
   refine WO_one rfl (One_store (t := 117) (x := (.tmp 8)) (y := (.tmp 25)) (v := .agg #[.func (.func 94) #[] #[]]) (c' := #[.func (.func 94) #[] #[]]) kr (ev (.pointer (some ⟨b4, 0, none⟩))) (ev (.agg #[.func (.func 94) #[] #[]])) st kr kr ?_)
   clear st
   intro w7 st
   refine WO_et rfl (W_sr ?_)
   refine WO_seg 1 [(27, .pointer (some ⟨b4, 0, none⟩))] kr kr ?_
   refine WO_one rfl (One_load_own (d := 28) (t := 115) (x := (.tmp 27)) (.func (.func 94) #[] #[]) kr rfl (ev (.pointer (some ⟨b4, 0, none⟩))) st.head kr ?_)
   refine WO_seg 2 [(29, .slice a1 (List.length p0) c1), (30, .int .i64 p1)] kr kr ?_
   replace ⟨o2, hr, hrKu1⟩ := bindS hr
   refine WO_one rfl (One_fn 31 94 #[.slice a1 (List.length p0) c1, .int .i64 p1, .pointer (some ⟨b1, 0, none⟩)] kr rfl ?_)
   refine Calls_cut (fun v' w' => ∃ (m4 : Mem), v' = (.tuple #[.int .i64 o2.1, .int .i64 o2.2]) ∧ m.le m4 ∧ St m4 (.blk b4 (.cells #[.func (.func 94) #[] #[]] 117 (0, 0)) :: .blk b2 (.cells #[.int .i64 p1] 3 (0, 0)) :: .blk b1 (.cells #[.int .i64 0, .slice none (List.length ([] : List (UInt8))) 0] 37 (0, 0)) :: own) w' ∧ RepS cU8 m4 a1 c1 p0 ∧ MRow m4 b3 0 [.func (.func 94) #[] #[], .func (.func 95) #[] #[], .func (.func 96) #[] #[], .func (.func 97) #[] #[.pointer (some ⟨b2, 0, none⟩)]]) ?_ ?_
   ·clear hr st
    have hr := hrKu1
    clear hrKu1
    rintro _ w8 ⟨m4, rfl, hm, st, r1, hb2⟩
    refine ⟨_, rfl, ?_⟩
    refine WO_seg 5 [(5, .int .i64 o2.1), (6, .int .i64 o2.2)] kr kr ?_
    refine WO_et rfl (W_sr ?_)
    refine WO_seg 2 [(35, .bool (o2.2 != 0))] kr kr ?_
    refine WO_et rfl (W_cond (o2.2 != 0) kr ?_ ?_)
    ·intro hc
     rw [if_pos hc] at hr
     refine W_sr (WO_seg 2 [(36, .agg #[.int .i64 0, .slice none (List.length ([] : List (UInt8))) 0]), (37, .int .i64 o2.2)] kr kr ?_)
     have st := st.front2
     refine WO_one rfl (One_store (t := 37) (x := (.tmp 4)) (y := (.tmp 36)) (v := .agg #[.int .i64 0, .slice none (List.length ([] : List (UInt8))) 0]) (c' := #[.int .i64 0, .slice none (List.length ([] : List (UInt8))) 0]) kr (ev (.pointer (some ⟨b1, 0, none⟩))) (ev (.agg #[.int .i64 0, .slice none (List.length ([] : List (UInt8))) 0])) st kr kr ?_)
     clear st
     intro w9 st
     refine WO_seg 2 [(5, .int .i64 0), (6, .int .i64 o2.2)] kr kr ?_
     refine WO_et rfl (W_ret ?_)
     refine X_block_ret ?_
     refine X_then_ret ?_
     refine X_then_ret ?_
     refine X_block_ret ?_
     refine X_then_ret ?_
     obtain rfl := Option.some.inj hr
     refine X_ret [.cell 4 37, .tmp 5, .tmp 6] [.agg #[.int .i64 0, .slice none (List.length ([] : List (UInt8))) 0], .int .i64 0, .int .i64 o2.2] rfl (ResAll.cons (ResAt.blk (v := .agg #[.int .i64 0, .slice none (List.length ([] : List (UInt8))) 0]) (o := 0) kr st.head kr) (ResAll.cons (ResAt.tmp kr) (ResAll.cons (ResAt.tmp kr) ResAll.nil))) ?_
     have st := st.nilroom 5 1
     have st := st.front1
     have st := st.tail
     have st := st.front1
     have st := st.tail
     have st := st.front1
     have st := st.tail
     exact ⟨none, 0, m4, rfl, hm, st, (RepS.nil _ _)⟩
    ·intro hc
     rw [if_neg (not_true hc)] at hr
     refine W_skip ?_
     refine X_block ?_
     refine X_then ?_
     refine W_region ?_
     refine WO_seg 2 [(22, .int .i64 1)] kr kr ?_
     refine WO_end rfl ?_
     refine X_again ?_
     refine WR_succ ?_
     refine W_sr (WO_seg 1 [(23, .bool true)] kr kr ?_)
     refine WO_et rfl (W_seq ?_)
     refine W_cond true kr ?_ (fun h => Bool.noConfusion h)
     intro _
     refine W_skip ?_
     refine X_then ?_
     refine W_seq ?_
     refine W_block ?_
     refine W_sr (WO_seg 1 [(24, .pointer (some ⟨b3, 1, none⟩))] kr kr ?_)
     refine WO_one rfl (One_load_row (d := 25) (t := 117) (x := (.tmp 24)) (.agg #[.func (.func 95) #[] #[]]) kr rfl (ev (.pointer (some ⟨b3, 1, none⟩))) st (hb2.drop 1) kr ?_)
     refine WO_one rfl (One_alloc (d := 8) (e := 117) (.agg #[.nilFunc]) kr rfl kr st ?_)
     clear st
     intro b6 w10 st
     refine WO_one rfl (One_store (t := 117) (x := (.tmp 8)) (y := (.tmp 25)) (v := .agg #[.func (.func 95) #[] #[]]) (c' := #[.func (.func 95) #[] #[]]) kr (ev (.pointer (some ⟨b6, 0, none⟩))) (ev (.agg #[.func (.func 95) #[] #[]])) st kr kr ?_)
     clear st
     intro w11 st
     refine WO_et rfl (W_sr ?_)
     refine WO_seg 1 [(27, .pointer (some ⟨b6, 0, none⟩))] kr kr ?_
     refine WO_one rfl (One_load_own (d := 28) (t := 115) (x := (.tmp 27)) (.func (.func 95) #[] #[]) kr rfl (ev (.pointer (some ⟨b6, 0, none⟩))) st.head kr ?_)
     refine WO_seg 2 [(29, .slice a1 (List.length p0) c1), (30, .int .i64 o2.1)] kr kr ?_
     replace ⟨o3, hr, hrKu2⟩ := bindS hr
     refine WO_one rfl (One_fn 31 95 #[.slice a1 (List.length p0) c1, .int .i64 o2.1, .pointer (some ⟨b1, 0, none⟩)] kr rfl ?_)
     refine Calls_cut (fun v' w' => ∃ (m5 : Mem), v' = (.tuple #[.int .i64 o3.1, .int .i64 o3.2.1]) ∧ m.le m5 ∧ St m5 (.blk b6 (.cells #[.func (.func 95) #[] #[]] 117 (0, 0)) :: .blk b4 (.cells #[.func (.func 94) #[] #[]] 117 (0, 0)) :: .blk b2 (.cells #[.int .i64 p1] 3 (0, 0)) :: .blk b1 (.cells #[.int .i64 o3.2.2, .slice none (List.length ([] : List (UInt8))) 0] 37 (0, 0)) :: own) w' ∧ RepS cU8 m5 a1 c1 p0 ∧ MRow m5 b3 0 [.func (.func 94) #[] #[], .func (.func 95) #[] #[], .func (.func 96) #[] #[], .func (.func 97) #[] #[.pointer (some ⟨b2, 0, none⟩)]]) ?_ ?_
     ·clear hr st
      have hr := hrKu2
      clear hrKu2
      rintro _ w12 ⟨m5, rfl, hm, st, r1, hb2⟩
      refine ⟨_, rfl, ?_⟩
      refine WO_seg 5 [(5, .int .i64 o3.1), (6, .int .i64 o3.2.1)] kr kr ?_
      refine WO_et rfl (W_sr ?_)
      refine WO_seg 2 [(35, .bool (o3.2.1 != 0))] kr kr ?_
      refine WO_et rfl (W_cond (o3.2.1 != 0) kr ?_ ?_)
      ·intro hc
       rw [if_pos hc] at hr
       refine W_sr (WO_seg 2 [(36, .agg #[.int .i64 0, .slice none (List.length ([] : List (UInt8))) 0]), (37, .int .i64 o3.2.1)] kr kr ?_)
       have st := st.front3
       refine WO_one rfl (One_store (t := 37) (x := (.tmp 4)) (y := (.tmp 36)) (v := .agg #[.int .i64 0, .slice none (List.length ([] : List (UInt8))) 0]) (c' := #[.int .i64 0, .slice none (List.length ([] : List (UInt8))) 0]) kr (ev (.pointer (some ⟨b1, 0, none⟩))) (ev (.agg #[.int .i64 0, .slice none (List.length ([] : List (UInt8))) 0])) st kr kr ?_)
       clear st
       intro w14 st
       refine WO_seg 2 [(5, .int .i64 0), (6, .int .i64 o3.2.1)] kr kr ?_
       refine WO_et rfl (W_ret ?_)
       refine X_block_ret ?_
       refine X_then_ret ?_
       refine X_then_ret ?_
       refine X_block_ret ?_
       refine X_then_ret ?_
       obtain rfl := Option.some.inj hr
       refine X_ret [.cell 4 37, .tmp 5, .tmp 6] [.agg #[.int .i64 0, .slice none (List.length ([] : List (UInt8))) 0], .int .i64 0, .int .i64 o3.2.1] rfl (ResAll.cons (ResAt.blk (v := .agg #[.int .i64 0, .slice none (List.length ([] : List (UInt8))) 0]) (o := 0) kr st.head kr) (ResAll.cons (ResAt.tmp kr) (ResAll.cons (ResAt.tmp kr) ResAll.nil))) ?_
       have st := st.nilroom 5 1
       have st := st.front1
       have st := st.tail
       have st := st.front1
       have st := st.tail
       have st := st.front1
       have st := st.tail
       have st := st.front1
       have st := st.tail
       exact ⟨none, 0, m5, rfl, hm, st, (RepS.nil _ _)⟩
      ·intro hc
       rw [if_neg (not_true hc)] at hr
       refine W_skip ?_
       refine X_block ?_
       refine X_then ?_
       refine W_region ?_
       refine WO_seg 2 [(22, .int .i64 2)] kr kr ?_
       refine WO_end rfl ?_
       refine X_again ?_
       refine WR_succ ?_
       refine W_sr (WO_seg 1 [(23, .bool true)] kr kr ?_)
       refine WO_et rfl (W_seq ?_)
       refine W_cond true kr ?_ (fun h => Bool.noConfusion h)
       intro _
       refine W_skip ?_
       refine X_then ?_
       refine W_seq ?_
       refine W_block ?_
       refine W_sr (WO_seg 1 [(24, .pointer (some ⟨b3, 2, none⟩))] kr kr ?_)
       refine WO_one rfl (One_load_row (d := 25) (t := 117) (x := (.tmp 24)) (.agg #[.func (.func 96) #[] #[]]) kr rfl (ev (.pointer (some ⟨b3, 2, none⟩))) st (hb2.drop 2) kr ?_)
       refine WO_one rfl (One_alloc (d := 8) (e := 117) (.agg #[.nilFunc]) kr rfl kr st ?_)
       clear st
       intro b9 w15 st
       refine WO_one rfl (One_store (t := 117) (x := (.tmp 8)) (y := (.tmp 25)) (v := .agg #[.func (.func 96) #[] #[]]) (c' := #[.func (.func 96) #[] #[]]) kr (ev (.pointer (some ⟨b9, 0, none⟩))) (ev (.agg #[.func (.func 96) #[] #[]])) st kr kr ?_)
       clear st
       intro w16 st
       refine WO_et rfl (W_sr ?_)
       refine WO_seg 1 [(27, .pointer (some ⟨b9, 0, none⟩))] kr kr ?_
       refine WO_one rfl (One_load_own (d := 28) (t := 115) (x := (.tmp 27)) (.func (.func 96) #[] #[]) kr rfl (ev (.pointer (some ⟨b9, 0, none⟩))) st.head kr ?_)
       refine WO_seg 2 [(29, .slice a1 (List.length p0) c1), (30, .int .i64 o3.1)] kr kr ?_
       replace ⟨o4, hr, hrKu3⟩ := bindS hr
       refine WO_one rfl (One_fn 31 96 #[.slice a1 (List.length p0) c1, .int .i64 o3.1, .pointer (some ⟨b1, 0, none⟩)] kr rfl ?_)
       refine Calls_cut (fun v' w' => ∃ (a2 : Option Addr) (c2 : Nat) (m6 : Mem), v' = (.tuple #[.int .i64 o4.1, .int .i64 o4.2.1]) ∧ m.le m6 ∧ St m6 (.blk b9 (.cells #[.func (.func 96) #[] #[]] 117 (0, 0)) :: .blk b6 (.cells #[.func (.func 95) #[] #[]] 117 (0, 0)) :: .blk b4 (.cells #[.func (.func 94) #[] #[]] 117 (0, 0)) :: .blk b2 (.cells #[.int .i64 p1] 3 (0, 0)) :: .blk b1 (.cells #[.int .i64 o3.2.2, .slice a2 (List.length o4.2.2) c2] 37 (0, 0)) :: .room a2 (List.length o4.2.2) c2 5 1 :: own) w' ∧ RepS cU8 m6 a1 c1 p0 ∧ MRow m6 b3 0 [.func (.func 94) #[] #[], .func (.func 95) #[] #[], .func (.func 96) #[] #[], .func (.func 97) #[] #[.pointer (some ⟨b2, 0, none⟩)]] ∧ RepS cU8 m6 a2 c2 o4.2.2) ?_ ?_
       ·clear hr st
        have hr := hrKu3
        clear hrKu3
        rintro _ w17 ⟨a2, c2, m6, rfl, hm, st, r1, hb2, r2⟩
        refine ⟨_, rfl, ?_⟩
        refine WO_seg 5 [(5, .int .i64 o4.1), (6, .int .i64 o4.2.1)] kr kr ?_
        refine WO_et rfl (W_sr ?_)
        refine WO_seg 2 [(35, .bool (o4.2.1 != 0))] kr kr ?_
        refine WO_et rfl (W_cond (o4.2.1 != 0) kr ?_ ?_)
        ·intro hc
         rw [if_pos hc] at hr
         refine W_sr (WO_seg 2 [(36, .agg #[.int .i64 0, .slice none (List.length ([] : List (UInt8))) 0]), (37, .int .i64 o4.2.1)] kr kr ?_)
         have st := st.front4
         refine WO_one rfl (One_store (t := 37) (x := (.tmp 4)) (y := (.tmp 36)) (v := .agg #[.int .i64 0, .slice none (List.length ([] : List (UInt8))) 0]) (c' := #[.int .i64 0, .slice none (List.length ([] : List (UInt8))) 0]) kr (ev (.pointer (some ⟨b1, 0, none⟩))) (ev (.agg #[.int .i64 0, .slice none (List.length ([] : List (UInt8))) 0])) st kr kr ?_)
         clear st
         intro w21 st
         refine WO_seg 2 [(5, .int .i64 0), (6, .int .i64 o4.2.1)] kr kr ?_
         refine WO_end rfl ?_
         have st := st.front5
         have st := st.tail
         refine X_then ?_
         refine W_ret ?_
         refine X_block_ret ?_
         refine X_then_ret ?_
         refine X_then_ret ?_
         refine X_block_ret ?_
         refine X_then_ret ?_
         obtain rfl := Option.some.inj hr
         refine X_ret [.cell 4 37, .tmp 5, .tmp 6] [.agg #[.int .i64 0, .slice none (List.length ([] : List (UInt8))) 0], .int .i64 0, .int .i64 o4.2.1] rfl (ResAll.cons (ResAt.blk (v := .agg #[.int .i64 0, .slice none (List.length ([] : List (UInt8))) 0]) (o := 0) kr st.head kr) (ResAll.cons (ResAt.tmp kr) (ResAll.cons (ResAt.tmp kr) ResAll.nil))) ?_
         have st := st.nilroom 5 1
         have st := st.front1
         have st := st.tail
         have st := st.front1
         have st := st.tail
         have st := st.front1
         have st := st.tail
         have st := st.front1
         have st := st.tail
         have st := st.front1
         have st := st.tail
         exact ⟨none, 0, m6, rfl, hm, st, (RepS.nil _ _)⟩
        ·intro hc
         rw [if_neg (not_true hc)] at hr
         refine W_skip ?_
         refine X_block ?_
         refine X_then ?_
         refine W_region ?_
         refine WO_seg 2 [(22, .int .i64 3)] kr kr ?_
         refine WO_end rfl ?_
         refine X_again ?_
         refine WR_succ ?_
         refine W_sr (WO_seg 1 [(23, .bool true)] kr kr ?_)
         refine WO_et rfl (W_seq ?_)
         refine W_cond true kr ?_ (fun h => Bool.noConfusion h)
         intro _
         refine W_skip ?_
         refine X_then ?_
         refine W_seq ?_
         refine W_block ?_
         refine W_sr (WO_seg 1 [(24, .pointer (some ⟨b3, 3, none⟩))] kr kr ?_)
         refine WO_one rfl (One_load_row (d := 25) (t := 117) (x := (.tmp 24)) (.agg #[.func (.func 97) #[] #[.pointer (some ⟨b2, 0, none⟩)]]) kr rfl (ev (.pointer (some ⟨b3, 3, none⟩))) st (hb2.drop 3) kr ?_)
         refine WO_one rfl (One_alloc (d := 8) (e := 117) (.agg #[.nilFunc]) kr rfl kr st ?_)
         clear st
         intro b10 w22 st
         refine WO_one rfl (One_store (t := 117) (x := (.tmp 8)) (y := (.tmp 25)) (v := .agg #[.func (.func 97) #[] #[.pointer (some ⟨b2, 0, none⟩)]]) (c' := #[.func (.func 97) #[] #[.pointer (some ⟨b2, 0, none⟩)]]) kr (ev (.pointer (some ⟨b10, 0, none⟩))) (ev (.agg #[.func (.func 97) #[] #[.pointer (some ⟨b2, 0, none⟩)]])) st kr kr ?_)
         clear st
         intro w23 st
         refine WO_et rfl (W_sr ?_)
         refine WO_seg 1 [(27, .pointer (some ⟨b10, 0, none⟩))] kr kr ?_
         refine WO_one rfl (One_load_own (d := 28) (t := 115) (x := (.tmp 27)) (.func (.func 97) #[] #[.pointer (some ⟨b2, 0, none⟩)]) kr rfl (ev (.pointer (some ⟨b10, 0, none⟩))) st.head kr ?_)
         refine WO_seg 2 [(29, .slice a1 (List.length p0) c1), (30, .int .i64 o4.1)] kr kr ?_
         replace ⟨o5, hr, hrKu4⟩ := bindS hr
         refine WO_one rfl (One_fn 31 97 #[.slice a1 (List.length p0) c1, .int .i64 o4.1, .pointer (some ⟨b1, 0, none⟩), .pointer (some ⟨b2, 0, none⟩)] kr rfl ?_)
         refine Calls_cut (fun v' w' => ∃ (m9 : Mem), v' = (.tuple #[.int .i64 o5.1, .int .i64 o5.2]) ∧ m.le m9 ∧ St m9 (.blk b10 (.cells #[.func (.func 97) #[] #[.pointer (some ⟨b2, 0, none⟩)]] 117 (0, 0)) :: .blk b9 (.cells #[.func (.func 96) #[] #[]] 117 (0, 0)) :: .blk b6 (.cells #[.func (.func 95) #[] #[]] 117 (0, 0)) :: .blk b4 (.cells #[.func (.func 94) #[] #[]] 117 (0, 0)) :: .blk b2 (.cells #[.int .i64 p1] 3 (0, 0)) :: .blk b1 (.cells #[.int .i64 o3.2.2, .slice a2 (List.length o4.2.2) c2] 37 (0, 0)) :: .room a2 (List.length o4.2.2) c2 5 1 :: own) w' ∧ RepS cU8 m9 a1 c1 p0 ∧ MRow m9 b3 0 [.func (.func 94) #[] #[], .func (.func 95) #[] #[], .func (.func 96) #[] #[], .func (.func 97) #[] #[.pointer (some ⟨b2, 0, none⟩)]] ∧ RepS cU8 m9 a2 c2 o4.2.2) ?_ ?_
         ·clear hr st
          have hr := hrKu4
          clear hrKu4
          rintro _ w24 ⟨m9, rfl, hm, st, r1, hb2, r2⟩
          refine ⟨_, rfl, ?_⟩
          refine WO_seg 5 [(5, .int .i64 o5.1), (6, .int .i64 o5.2)] kr kr ?_
          refine WO_et rfl (W_sr ?_)
          refine WO_seg 2 [(35, .bool (o5.2 != 0))] kr kr ?_
          refine WO_et rfl (W_cond (o5.2 != 0) kr ?_ ?_)
          ·intro hc
           rw [if_pos hc] at hr
           refine W_sr (WO_seg 2 [(36, .agg #[.int .i64 0, .slice none (List.length ([] : List (UInt8))) 0]), (37, .int .i64 o5.2)] kr kr ?_)
           have st := st.front5
           refine WO_one rfl (One_store (t := 37) (x := (.tmp 4)) (y := (.tmp 36)) (v := .agg #[.int .i64 0, .slice none (List.length ([] : List (UInt8))) 0]) (c' := #[.int .i64 0, .slice none (List.length ([] : List (UInt8))) 0]) kr (ev (.pointer (some ⟨b1, 0, none⟩))) (ev (.agg #[.int .i64 0, .slice none (List.length ([] : List (UInt8))) 0])) st kr kr ?_)
           clear st
           intro w27 st
           refine WO_seg 2 [(5, .int .i64 0), (6, .int .i64 o5.2)] kr kr ?_
           refine WO_end rfl ?_
           have st := st.front6
           have st := st.tail
           refine X_then ?_
           refine W_ret ?_
           refine X_block_ret ?_
           refine X_then_ret ?_
           refine X_then_ret ?_
           refine X_block_ret ?_
           refine X_then_ret ?_
           obtain rfl := Option.some.inj hr
           refine X_ret [.cell 4 37, .tmp 5, .tmp 6] [.agg #[.int .i64 0, .slice none (List.length ([] : List (UInt8))) 0], .int .i64 0, .int .i64 o5.2] rfl (ResAll.cons (ResAt.blk (v := .agg #[.int .i64 0, .slice none (List.length ([] : List (UInt8))) 0]) (o := 0) kr st.head kr) (ResAll.cons (ResAt.tmp kr) (ResAll.cons (ResAt.tmp kr) ResAll.nil))) ?_
           have st := st.nilroom 5 1
           have st := st.front1
           have st := st.tail
           have st := st.front1
           have st := st.tail
           have st := st.front1
           have st := st.tail
           have st := st.front1
           have st := st.tail
           have st := st.front1
           have st := st.tail
           have st := st.front1
           have st := st.tail
           exact ⟨none, 0, m9, rfl, hm, st, (RepS.nil _ _)⟩
          ·intro hc
           rw [if_neg (not_true hc)] at hr
           refine W_skip ?_
           refine X_block ?_
           refine X_then ?_
           refine W_region ?_
           refine WO_seg 2 [(22, .int .i64 4)] kr kr ?_
           refine WO_end rfl ?_
           refine X_again ?_
           refine WR_succ ?_
           refine W_sr (WO_seg 1 [(23, .bool false)] kr kr ?_)
           refine WO_et rfl (W_seq ?_)
           refine W_cond false kr (fun h => Bool.noConfusion h) ?_
           intro _
           refine W_exit ?_
           refine X_then_exit ?_
           refine X_then_exit ?_
           refine X_block_eq ?_
           refine X_then ?_
           refine W_sr (WO_one rfl (One_load_own (d := 39) (t := 37) (x := (.tmp 4)) (.agg #[.int .i64 o3.2.2, .slice a2 (List.length o4.2.2) c2]) kr rfl (ev (.pointer (some ⟨b1, 0, none⟩))) st.tail.tail.tail.tail.tail.head kr ?_))
           refine WO_seg 1 [(40, .int .i64 o5.1)] kr kr ?_
           have st := st.front5
           refine WO_one rfl (One_store (t := 37) (x := (.tmp 4)) (y := (.tmp 39)) (v := .agg #[.int .i64 o3.2.2, .slice a2 (List.length o4.2.2) c2]) (c' := #[.int .i64 o3.2.2, .slice a2 (List.length o4.2.2) c2]) kr (ev (.pointer (some ⟨b1, 0, none⟩))) (ev (.agg #[.int .i64 o3.2.2, .slice a2 (List.length o4.2.2) c2])) st kr kr ?_)
           clear st
           intro w28 st
           refine WO_seg 2 [(5, .int .i64 o5.1), (6, .int .i64 0)] kr kr ?_
           refine WO_et rfl (W_ret ?_)
           obtain rfl := Option.some.inj hr
           refine X_ret [.cell 4 37, .tmp 5, .tmp 6] [.agg #[.int .i64 o3.2.2, .slice a2 (List.length o4.2.2) c2], .int .i64 o5.1, .int .i64 0] rfl (ResAll.cons (ResAt.blk (v := .agg #[.int .i64 o3.2.2, .slice a2 (List.length o4.2.2) c2]) (o := 0) kr st.head kr) (ResAll.cons (ResAt.tmp kr) (ResAll.cons (ResAt.tmp kr) ResAll.nil))) ?_
           have st := st.tail
           have st := st.tail
           have st := st.tail
           have st := st.tail
           have st := st.tail
           have st := st.tail
           exact ⟨a2, c2, m9, rfl, hm, st, r2⟩
         ·clear hrKu4
          refine W_calls Tryz.func97 rfl Tryz.ntmps97 [(0, .slice a1 (List.length p0) c1), (1, .int .i64 o4.1), (2, .pointer (some ⟨b1, 0, none⟩)), (3, .pointer (some ⟨b2, 0, none⟩))] kr rfl ?_
          refine W_sr (WO_seg 2 [] kr kr ?_)
          refine WO_et rfl (W_seq ?_)
          refine W_draw [(30, fun w' => Inv m6 w' ∧ True)] kr st ?_
          clear st
          intro w25 _ st
          have hmS1 := m6.le_refl
          refine ⟨⟨.inr ⟨Inv.anti st.inv hmS1, trivial⟩, trivial⟩, ?_⟩
          refine WA_pure 0 10 (.slice a1 (List.length p0) c1) kr rfl kr (.head _) (QP_then QP_body) ?_
          refine WA_pure 1 11 (.int .i64 o4.1) kr rfl kr (.head _) (QP_then QP_body) ?_
          replace ⟨x4, hx7, hr⟩ := bindS hr
          refine WA_index (t := 23) (e := 5) (x := (.tmp 10)) (y := (.tmp 11)) 2 12 cU8 kr rfl kr (.head _) (QP_then QP_body) (ev (.slice a1 (List.length p0) c1)) (ev (.int .i64 o4.1)) kr r1 hx7 ?_
          rintro b11 f4 cs4 rfl hq4
          refine WA_load_row (t := 5) (x := (.tmp 12)) 3 13 (.int .u8 (x4.toNat : Int)) kr rfl kr (.head _) (QP_then QP_body) (fun _ h => h.1) (ev (.pointer (some ⟨b11, f4, none⟩))) hq4 kr ?_
          refine WA_pure 4 14 (.int .u32 (IntKind.wrap .u32 (x4.toNat : Int))) kr rfl kr (.head _) (QP_then QP_body) ?_
          refine WA_pure 5 15 (.slice a1 (List.length p0) c1) kr rfl kr (.head _) (QP_then QP_body) ?_
          refine WA_pure 6 16 (.int .i64 o4.1) kr rfl kr (.head _) (QP_then QP_body) ?_
          refine WA_pure 7 17 (.int .i64 (IntKind.wrap .i64 (o4.1 + 1))) kr rfl kr (.head _) (QP_then QP_body) ?_
          replace ⟨x5, hx8, hr⟩ := bindS hr
          refine WA_index (t := 23) (e := 5) (x := (.tmp 15)) (y := (.tmp 17)) 8 18 cU8 kr rfl kr (.head _) (QP_then QP_body) (ev (.slice a1 (List.length p0) c1)) (ev (.int .i64 (IntKind.wrap .i64 (o4.1 + 1)))) kr r1 hx8 ?_
          rintro b12 f5 cs5 rfl hq5
          refine WA_load_row (t := 5) (x := (.tmp 18)) 9 19 (.int .u8 (x5.toNat : Int)) kr rfl kr (.head _) (QP_then QP_body) (fun _ h => h.1) (ev (.pointer (some ⟨b12, f5, none⟩))) hq5 kr ?_
          refine WA_pure 10 20 (.int .u32 (IntKind.wrap .u32 (x5.toNat : Int))) kr rfl kr (.head _) (QP_then QP_body) ?_
          refine WA_pure 11 21 (.int .u32 (IntKind.wrap .u32 ((IntKind.wrap .u32 (x5.toNat : Int)) * 2 ^ 8))) kr rfl kr (.head _) (QP_then QP_body) ?_
          refine WA_pure 12 22 (.int .u32 (iOr .u32 (IntKind.wrap .u32 (x4.toNat : Int)) (IntKind.wrap .u32 ((IntKind.wrap .u32 (x5.toNat : Int)) * 2 ^ 8)))) kr rfl kr (.head _) (QP_then QP_body) ?_
          refine WA_pure 13 23 (.slice a1 (List.length p0) c1) kr rfl kr (.head _) (QP_then QP_body) ?_
          refine WA_pure 14 24 (.int .i64 o4.1) kr rfl kr (.head _) (QP_then QP_body) ?_
          refine WA_pure 15 25 (.int .i64 (IntKind.wrap .i64 (o4.1 + 2))) kr rfl kr (.head _) (QP_then QP_body) ?_
          replace ⟨x6, hx9, hr⟩ := bindS hr
          refine WA_index (t := 23) (e := 5) (x := (.tmp 23)) (y := (.tmp 25)) 16 26 cU8 kr rfl kr (.head _) (QP_then QP_body) (ev (.slice a1 (List.length p0) c1)) (ev (.int .i64 (IntKind.wrap .i64 (o4.1 + 2)))) kr r1 hx9 ?_
          rintro b13 f6 cs6 rfl hq6
          refine WA_load_row (t := 5) (x := (.tmp 26)) 17 27 (.int .u8 (x6.toNat : Int)) kr rfl kr (.head _) (QP_then QP_body) (fun _ h => h.1) (ev (.pointer (some ⟨b13, f6, none⟩))) hq6 kr ?_
          refine WA_pure 18 28 (.int .u32 (IntKind.wrap .u32 (x6.toNat : Int))) kr rfl kr (.head _) (QP_then QP_body) ?_
          refine WA_pure 19 29 (.int .u32 (IntKind.wrap .u32 ((IntKind.wrap .u32 (x6.toNat : Int)) * 2 ^ 16))) kr rfl kr (.head _) (QP_then QP_body) ?_
          refine WA_pure 20 30 (.int .u32 (iOr .u32 (iOr .u32 (IntKind.wrap .u32 (x4.toNat : Int)) (IntKind.wrap .u32 ((IntKind.wrap .u32 (x5.toNat : Int)) * 2 ^ 8))) (IntKind.wrap .u32 ((IntKind.wrap .u32 (x6.toNat : Int)) * 2 ^ 16)))) kr rfl kr (.head _) (QP_then QP_body) ?_
          refine WA_pure 21 31 (.slice a1 (List.length p0) c1) kr rfl kr (.head _) (QP_then QP_body) ?_
          refine WA_pure 22 32 (.int .i64 o4.1) kr rfl kr (.head _) (QP_then QP_body) ?_
          refine WA_pure 23 33 (.int .i64 (IntKind.wrap .i64 (o4.1 + 3))) kr rfl kr (.head _) (QP_then QP_body) ?_
          replace ⟨x7, hx10, hr⟩ := bindS hr
          refine WA_index (t := 23) (e := 5) (x := (.tmp 31)) (y := (.tmp 33)) 24 34 cU8 kr rfl kr (.head _) (QP_then QP_body) (ev (.slice a1 (List.length p0) c1)) (ev (.int .i64 (IntKind.wrap .i64 (o4.1 + 3)))) kr r1 hx10 ?_
          rintro b14 f7 cs7 rfl hq7
          refine WA_load_row (t := 5) (x := (.tmp 34)) 25 35 (.int .u8 (x7.toNat : Int)) kr rfl kr (.head _) (QP_then QP_body) (fun _ h => h.1) (ev (.pointer (some ⟨b14, f7, none⟩))) hq7 kr ?_
          refine WA_pure 26 36 (.int .u32 (IntKind.wrap .u32 (x7.toNat : Int))) kr rfl kr (.head _) (QP_then QP_body) ?_
          refine WA_pure 27 37 (.int .u32 (IntKind.wrap .u32 ((IntKind.wrap .u32 (x7.toNat : Int)) * 2 ^ 24))) kr rfl kr (.head _) (QP_then QP_body) ?_
          refine WA_pure 28 38 (.int .u32 (iOr .u32 (iOr .u32 (iOr .u32 (IntKind.wrap .u32 (x4.toNat : Int)) (IntKind.wrap .u32 ((IntKind.wrap .u32 (x5.toNat : Int)) * 2 ^ 8))) (IntKind.wrap .u32 ((IntKind.wrap .u32 (x6.toNat : Int)) * 2 ^ 16))) (IntKind.wrap .u32 ((IntKind.wrap .u32 (x7.toNat : Int)) * 2 ^ 24)))) kr rfl kr (.head _) (QP_then QP_body) ?_
          refine WA_pure 29 9 (.int .u32 (iOr .u32 (iOr .u32 (iOr .u32 (IntKind.wrap .u32 (x4.toNat : Int)) (IntKind.wrap .u32 ((IntKind.wrap .u32 (x5.toNat : Int)) * 2 ^ 8))) (IntKind.wrap .u32 ((IntKind.wrap .u32 (x6.toNat : Int)) * 2 ^ 16))) (IntKind.wrap .u32 ((IntKind.wrap .u32 (x7.toNat : Int)) * 2 ^ 24)))) kr rfl kr (.head _) (QP_then QP_body) ?_
          refine WA_done kr ?_
          refine X_then ?_
          refine W_seq ?_
          refine W_sr (WO_seg 2 [(39, .int .u32 (iOr .u32 (iOr .u32 (iOr .u32 (IntKind.wrap .u32 (x4.toNat : Int)) (IntKind.wrap .u32 ((IntKind.wrap .u32 (x5.toNat : Int)) * 2 ^ 8))) (IntKind.wrap .u32 ((IntKind.wrap .u32 (x6.toNat : Int)) * 2 ^ 16))) (IntKind.wrap .u32 ((IntKind.wrap .u32 (x7.toNat : Int)) * 2 ^ 24)))), (40, .slice a1 (List.length p0) c1)] kr kr ?_)
          refine WO_one rfl (One_load_own (d := 41) (t := 3) (x := (.tmp 3)) (.int .i64 p1) kr rfl (ev (.pointer (some ⟨b2, 0, none⟩))) st.tail.tail.tail.tail.head kr ?_)
          refine WO_seg 2 [(42, .int .i64 (IntKind.wrap .i64 (p1 + 1))), (43, .int .i64 o4.1)] kr kr ?_
          replace ⟨l3, hx11, hr⟩ := bindS hr
          refine WO_one rfl (One_slice (d := 44) (t := 23) (e := 5) (x := (.tmp 40)) (lo := (some (.tmp 42))) (hi := (some (.tmp 43))) cU8 kr rfl (ev (.slice a1 (List.length p0) c1)) kr r1 (.inr ⟨_, _, rfl, (ev (.int .i64 (IntKind.wrap .i64 (p1 + 1))))⟩) (.inr ⟨_, _, rfl, (ev (.int .i64 o4.1))⟩) hx11 ?_)
          intro a5 c5 r5
          replace ⟨y2, hx12, hr⟩ := bindS hr
          refine WO_one rfl (One_fn 45 39 #[.slice a5 (List.length l3) c5] kr rfl ?_)
          refine (wire_Checksum_ok st r5 hx12).mono ?_
          clear st
          rintro _ w26 ⟨m10, rfl, hle5, st⟩
          refine ⟨_, rfl, ?_⟩
          have hm := Mem.le_trans hm hle5
          have r1 := r1.mono hle5
          have r5 := r5.mono hle5
          have hb2 := hb2.mono hle5
          have r2 := r2.mono hle5
          refine WO_seg 1 [(46, .bool ((iOr .u32 (iOr .u32 (iOr .u32 (IntKind.wrap .u32 (x4.toNat : Int)) (IntKind.wrap .u32 ((IntKind.wrap .u32 (x5.toNat : Int)) * 2 ^ 8))) (IntKind.wrap .u32 ((IntKind.wrap .u32 (x6.toNat : Int)) * 2 ^ 16))) (IntKind.wrap .u32 ((IntKind.wrap .u32 (x7.toNat : Int)) * 2 ^ 24))) != y2))] kr kr ?_
          refine WO_et rfl (W_cond ((iOr .u32 (iOr .u32 (iOr .u32 (IntKind.wrap .u32 (x4.toNat : Int)) (IntKind.wrap .u32 ((IntKind.wrap .u32 (x5.toNat : Int)) * 2 ^ 8))) (IntKind.wrap .u32 ((IntKind.wrap .u32 (x6.toNat : Int)) * 2 ^ 16))) (IntKind.wrap .u32 ((IntKind.wrap .u32 (x7.toNat : Int)) * 2 ^ 24))) != y2) kr ?_ ?_)
          ·intro hc
           rw [if_pos hc] at hr
           refine W_sr (WO_seg 2 [(7, .int .i64 0), (8, .int .i64 8)] kr kr ?_)
           refine WO_et rfl (W_ret ?_)
           refine X_then_ret ?_
           obtain rfl := Option.some.inj hr
           refine X_ret [.tmp 7, .tmp 8] [.int .i64 0, .int .i64 8] rfl (ResAll.cons (ResAt.tmp kr) (ResAll.cons (ResAt.tmp kr) ResAll.nil)) ?_
           have st := st.front6.front6.front6.front6.front6.front6.front6
           exact ⟨_, rfl, ⟨m10, rfl, hm, st, r1, hb2, r2⟩⟩
          ·intro hc
           rw [if_neg (not_true hc)] at hr
           refine W_skip ?_
           refine X_then ?_
           refine W_sr (WO_seg 4 [(7, .int .i64 (IntKind.wrap .i64 (o4.1 + 4))), (8, .int .i64 0)] kr kr ?_)
           refine WO_et rfl (W_ret ?_)
           obtain rfl := Option.some.inj hr
           refine X_ret [.tmp 7, .tmp 8] [.int .i64 (IntKind.wrap .i64 (o4.1 + 4)), .int .i64 0] rfl (ResAll.cons (ResAt.tmp kr) (ResAll.cons (ResAt.tmp kr) ResAll.nil)) ?_
           have st := st.front6.front6.front6.front6.front6.front6.front6
           exact ⟨_, rfl, ⟨m10, rfl, hm, st, r1, hb2, r2⟩⟩
       ·clear hrKu3
        refine W_calls Tryz.func96 rfl Tryz.ntmps96 [(0, .slice a1 (List.length p0) c1), (1, .int .i64 o3.1), (2, .pointer (some ⟨b1, 0, none⟩))] kr rfl ?_
        refine W_sr (WO_seg 2 [] kr kr ?_)
        refine WO_et rfl (W_sr ?_)
        refine WO_seg 2 [(12, .slice a1 (List.length p0) c1), (13, .int .i64 o3.1)] kr kr ?_
        replace ⟨y1, hx4, hr⟩ := bindS hr
        refine WO_one rfl (One_fn 14 63 #[.slice a1 (List.length p0) c1, .int .i64 o3.1] kr rfl ?_)
        refine (wire_Uint_ok st r1 hx4).mono ?_
        clear st
        rintro _ w18 ⟨m7, rfl, hle3, st⟩
        refine ⟨_, rfl, ?_⟩
        have hm := Mem.le_trans hm hle3
        have r1 := r1.mono hle3
        have hb2 := hb2.mono hle3
        refine WO_seg 7 [(8, .int .u64 y1.1), (9, .int .i64 y1.2.1), (10, .int .i64 y1.2.2)] kr kr ?_
        refine WO_et rfl (W_seq ?_)
        refine W_block ?_
        refine W_sr (WO_seg 3 [(18, .bool (y1.2.2 != 0))] kr kr ?_)
        refine WO_et rfl (W_cond (y1.2.2 != 0) kr ?_ ?_)
        ·intro hc
         rw [if_pos hc] at hr
         refine W_sr (WO_seg 3 [(6, .int .i64 0), (7, .int .i64 y1.2.2)] kr kr ?_)
         refine WO_et rfl (W_ret ?_)
         refine X_block_ret ?_
         refine X_then_ret ?_
         obtain rfl := Option.some.inj hr
         refine X_ret [.tmp 6, .tmp 7] [.int .i64 0, .int .i64 y1.2.2] rfl (ResAll.cons (ResAt.tmp kr) (ResAll.cons (ResAt.tmp kr) ResAll.nil)) ?_
         have st := st.nilroom 5 1
         have st := st.front5.front5.front5.front5.front5
         exact ⟨_, rfl, ⟨none, 0, m7, rfl, hm, st, r1, hb2, (RepS.nil _ _)⟩⟩
        ·intro hc
         rw [if_neg (not_true hc)] at hr
         refine W_sr (WO_seg 3 [(22, .bool (decide (y1.1 > 2097152)))] kr kr ?_)
         refine WO_et rfl (W_cond (decide (y1.1 > 2097152)) kr ?_ ?_)
         ·intro hc
          rw [if_pos hc] at hr
          refine W_sr (WO_seg 2 [(6, .int .i64 0), (7, .int .i64 2)] kr kr ?_)
          refine WO_et rfl (W_ret ?_)
          refine X_block_ret ?_
          refine X_then_ret ?_
          obtain rfl := Option.some.inj hr
          refine X_ret [.tmp 6, .tmp 7] [.int .i64 0, .int .i64 2] rfl (ResAll.cons (ResAt.tmp kr) (ResAll.cons (ResAt.tmp kr) ResAll.nil)) ?_
          have st := st.nilroom 5 1
          have st := st.front5.front5.front5.front5.front5
          exact ⟨_, rfl, ⟨none, 0, m7, rfl, hm, st, r1, hb2, (RepS.nil _ _)⟩⟩
         ·intro hc
          rw [if_neg (not_true hc)] at hr
          refine W_sr (WO_seg 9 [(25, .bool (decide ((IntKind.wrap .i64 ((IntKind.wrap .i64 y1.1) + 4)) > (IntKind.wrap .i64 ((List.length p0 : Int) - y1.2.1)))))] kr kr ?_)
          refine WO_et rfl (W_cond (decide ((IntKind.wrap .i64 ((IntKind.wrap .i64 y1.1) + 4)) > (IntKind.wrap .i64 ((List.length p0 : Int) - y1.2.1)))) kr ?_ ?_)
          ·intro hc
           rw [if_pos hc] at hr
           refine W_sr (WO_seg 2 [(6, .int .i64 0), (7, .int .i64 7)] kr kr ?_)
           refine WO_et rfl (W_ret ?_)
           refine X_block_ret ?_
           refine X_then_ret ?_
           obtain rfl := Option.some.inj hr
           refine X_ret [.tmp 6, .tmp 7] [.int .i64 0, .int .i64 7] rfl (ResAll.cons (ResAt.tmp kr) (ResAll.cons (ResAt.tmp kr) ResAll.nil)) ?_
           have st := st.nilroom 5 1
           have st := st.front5.front5.front5.front5.front5
           exact ⟨_, rfl, ⟨none, 0, m7, rfl, hm, st, r1, hb2, (RepS.nil _ _)⟩⟩
          ·intro hc
           rw [if_neg (not_true hc)] at hr
           refine W_skip ?_
           refine X_block ?_
           refine X_then ?_
           refine W_sr (WO_seg 7 [(34, .pointer (some ⟨b1, 0, none⟩)), (35, .slice a1 (List.length p0) c1), (36, .int .i64 y1.2.1), (40, .int .i64 (IntKind.wrap .i64 (y1.2.1 + (IntKind.wrap .i64 y1.1))))] kr kr ?_)
           replace ⟨l1, hx5, hr⟩ := bindS hr
           refine WO_one rfl (One_slice (d := 41) (t := 23) (e := 5) (x := (.tmp 35)) (lo := (some (.tmp 36))) (hi := (some (.tmp 40))) cU8 kr rfl (ev (.slice a1 (List.length p0) c1)) kr r1 (.inr ⟨_, _, rfl, (ev (.int .i64 y1.2.1))⟩) (.inr ⟨_, _, rfl, (ev (.int .i64 (IntKind.wrap .i64 (y1.2.1 + (IntKind.wrap .i64 y1.1)))))⟩) hx5 ?_)
           intro a3 c3 r3
           have st := st.nilroom 5 1
           replace ⟨l2, hx6, hr⟩ := bindS hr
           refine WO_one rfl (One_append (d := 42) (t := 23) (u := 23) (e := 5) (by_ := 1) (x := (.const (.slice none 0 0))) (y := (.tmp 41)) cU8 kr rfl (ev (.slice none (List.length ([] : List (UInt8))) 0)) (ev (.slice a3 (List.length l1) c3)) st kr (.inl kr) (RepS.nil _ _) r3.src hx6 ?_)
           clear st
           intro a4 c4 m8 w19 hle4 st r4
           have hm := Mem.le_trans hm hle4
           have r1 := r1.mono hle4
           have r3 := r3.mono hle4
           have hb2 := hb2.mono hle4
           refine WO_seg 2 [(44, .pointer (some ⟨b1, 1, none⟩))] kr kr ?_
           have st := st.front5
           refine WO_one rfl (One_store (t := 23) (x := (.tmp 44)) (y := (.tmp 42)) (v := .slice a4 (List.length l2) c4) (c' := #[.int .i64 o3.2.2, .slice a4 (List.length l2) c4]) kr (ev (.pointer (some ⟨b1, 1, none⟩))) (ev (.slice a4 (List.length l2) c4)) st kr kr ?_)
           clear st
           intro w20 st
           refine WO_et rfl (W_sr ?_)
           refine WO_seg 6 [(6, .int .i64 (IntKind.wrap .i64 (y1.2.1 + (IntKind.wrap .i64 y1.1)))), (7, .int .i64 0)] kr kr ?_
           refine WO_et rfl (W_ret ?_)
           obtain rfl := Option.some.inj hr
           refine X_ret [.tmp 6, .tmp 7] [.int .i64 (IntKind.wrap .i64 (y1.2.1 + (IntKind.wrap .i64 y1.1))), .int .i64 0] rfl (ResAll.cons (ResAt.tmp kr) (ResAll.cons (ResAt.tmp kr) ResAll.nil)) ?_
           have st := st.front1.front1.front5.front5.front5.front5
           exact ⟨_, rfl, ⟨a4, c4, m8, rfl, hm, st, r1, hb2, r4⟩⟩
     ·clear hrKu2
      refine W_calls Tryz.func95 rfl Tryz.ntmps95 [(0, .slice a1 (List.length p0) c1), (1, .int .i64 o2.1), (2, .pointer (some ⟨b1, 0, none⟩))] kr rfl ?_
      refine W_sr (WO_seg 2 [] kr kr ?_)
      refine WO_et rfl (W_seq ?_)
      refine W_block ?_
      refine W_sr (WO_seg 5 [(8, .bool (o2.1 == (List.length p0 : Int)))] kr kr ?_)
      refine WO_et rfl (W_cond (o2.1 == (List.length p0 : Int)) kr ?_ ?_)
      ·intro hc
       rw [if_pos hc] at hr
       refine W_sr (WO_seg 2 [(6, .int .i64 0), (7, .int .i64 7)] kr kr ?_)
       refine WO_et rfl (W_ret ?_)
       refine X_block_ret ?_
       refine X_then_ret ?_
       obtain rfl := Option.some.inj hr
       refine X_ret [.tmp 6, .tmp 7] [.int .i64 0, .int .i64 7] rfl (ResAll.cons (ResAt.tmp kr) (ResAll.cons (ResAt.tmp kr) ResAll.nil)) ?_
       have st := st.front3.front3.front3.front3
       exact ⟨_, rfl, ⟨m4, rfl, hm, st, r1, hb2⟩⟩
      ·intro hc
       rw [if_neg (not_true hc)] at hr
       refine W_sr (WO_seg 2 [(14, .slice a1 (List.length p0) c1), (15, .int .i64 o2.1)] kr kr ?_)
       replace ⟨x2, hx2, hr⟩ := bindS hr
       refine WO_one rfl (One_index (d := 16) (t := 23) (e := 5) (x := (.tmp 14)) (y := (.tmp 15)) cU8 kr rfl (ev (.slice a1 (List.length p0) c1)) (ev (.int .i64 o2.1)) kr r1 hx2 ?_)
       rintro b7 f2 cs2 rfl hq2
       refine WO_one rfl (One_load_row (d := 17) (t := 5) (x := (.tmp 16)) (.int .u8 (x2.toNat : Int)) kr rfl (ev (.pointer (some ⟨b7, f2, none⟩))) st hq2 kr ?_)
       refine WO_seg 2 [(13, .bool ((x2.toNat : Int) == 0))] kr kr ?_
       refine WO_et rfl (W_cond ((x2.toNat : Int) == 0) kr ?_ ?_)
       ·intro hc
        rw [if_pos hc] at hr
        refine W_sr (WO_seg 2 [(6, .int .i64 0), (7, .int .i64 6)] kr kr ?_)
        refine WO_et rfl (W_ret ?_)
        refine X_block_ret ?_
        refine X_then_ret ?_
        obtain rfl := Option.some.inj hr
        refine X_ret [.tmp 6, .tmp 7] [.int .i64 0, .int .i64 6] rfl (ResAll.cons (ResAt.tmp kr) (ResAll.cons (ResAt.tmp kr) ResAll.nil)) ?_
        have st := st.front3.front3.front3.front3
        exact ⟨_, rfl, ⟨m4, rfl, hm, st, r1, hb2⟩⟩
       ·intro hc
        rw [if_neg (not_true hc)] at hr
        refine W_skip ?_
        refine X_block ?_
        refine X_then ?_
        refine W_sr (WO_seg 3 [(19, .pointer (some ⟨b1, 0, none⟩)), (20, .slice a1 (List.length p0) c1), (21, .int .i64 o2.1)] kr kr ?_)
        replace ⟨x3, hx3, hr⟩ := bindS hr
        refine WO_one rfl (One_index (d := 22) (t := 23) (e := 5) (x := (.tmp 20)) (y := (.tmp 21)) cU8 kr rfl (ev (.slice a1 (List.length p0) c1)) (ev (.int .i64 o2.1)) kr r1 hx3 ?_)
        rintro b8 f3 cs3 rfl hq3
        refine WO_one rfl (One_load_row (d := 23) (t := 5) (x := (.tmp 22)) (.int .u8 (x3.toNat : Int)) kr rfl (ev (.pointer (some ⟨b8, f3, none⟩))) st hq3 kr ?_)
        refine WO_seg 3 [(24, .int .i64 (IntKind.wrap .i64 (x3.toNat : Int))), (26, .pointer (some ⟨b1, 0, none⟩))] kr kr ?_
        have st := st.front3
        refine WO_one rfl (One_store (t := 3) (x := (.tmp 26)) (y := (.tmp 24)) (v := .int .i64 (IntKind.wrap .i64 (x3.toNat : Int))) (c' := #[.int .i64 (IntKind.wrap .i64 (x3.toNat : Int)), .slice none (List.length ([] : List (UInt8))) 0]) kr (ev (.pointer (some ⟨b1, 0, none⟩))) (ev (.int .i64 (IntKind.wrap .i64 (x3.toNat : Int)))) st kr kr ?_)
        clear st
        intro w13 st
        refine WO_et rfl (W_sr ?_)
        refine WO_seg 4 [(6, .int .i64 (IntKind.wrap .i64 (o2.1 + 1))), (7, .int .i64 0)] kr kr ?_
        refine WO_et rfl (W_ret ?_)
        obtain rfl := Option.some.inj hr
        refine X_ret [.tmp 6, .tmp 7] [.int .i64 (IntKind.wrap .i64 (o2.1 + 1)), .int .i64 0] rfl (ResAll.cons (ResAt.tmp kr) (ResAll.cons (ResAt.tmp kr) ResAll.nil)) ?_
        have st := st.front3.front3.front3
        exact ⟨_, rfl, ⟨m4, rfl, hm, st, r1, hb2⟩⟩
   ·clear hrKu1
    refine W_calls Tryz.func94 rfl Tryz.ntmps94 [(0, .slice a1 (List.length p0) c1), (1, .int .i64 p1), (2, .pointer (some ⟨b1, 0, none⟩))] kr rfl ?_
    refine W_sr (WO_seg 2 [] kr kr ?_)
    refine WO_et rfl (W_seq ?_)
    refine W_block ?_
    refine W_sr (WO_seg 5 [(8, .bool (p1 == (List.length p0 : Int)))] kr kr ?_)
    refine WO_et rfl (W_cond (p1 == (List.length p0 : Int)) kr ?_ ?_)
    ·intro hc
     rw [if_pos hc] at hr
     refine W_sr (WO_seg 2 [(6, .int .i64 0), (7, .int .i64 7)] kr kr ?_)
     refine WO_et rfl (W_ret ?_)
     refine X_block_ret ?_
     refine X_then_ret ?_
     obtain rfl := Option.some.inj hr
     refine X_ret [.tmp 6, .tmp 7] [.int .i64 0, .int .i64 7] rfl (ResAll.cons (ResAt.tmp kr) (ResAll.cons (ResAt.tmp kr) ResAll.nil)) ?_
     have st := st.front2.front2.front2
     exact ⟨_, rfl, ⟨m3, rfl, hm, st, r1, hb2⟩⟩
    ·intro hc
     rw [if_neg (not_true hc)] at hr
     refine W_sr (WO_seg 2 [(14, .slice a1 (List.length p0) c1), (15, .int .i64 p1)] kr kr ?_)
     replace ⟨x1, hx1, hr⟩ := bindS hr
     refine WO_one rfl (One_index (d := 16) (t := 23) (e := 5) (x := (.tmp 14)) (y := (.tmp 15)) cU8 kr rfl (ev (.slice a1 (List.length p0) c1)) (ev (.int .i64 p1)) kr r1 hx1 ?_)
     rintro b5 f1 cs1 rfl hq1
     refine WO_one rfl (One_load_row (d := 17) (t := 5) (x := (.tmp 16)) (.int .u8 (x1.toNat : Int)) kr rfl (ev (.pointer (some ⟨b5, f1, none⟩))) st hq1 kr ?_)
     refine WO_seg 2 [(13, .bool ((x1.toNat : Int) != 247))] kr kr ?_
     refine WO_et rfl (W_cond ((x1.toNat : Int) != 247) kr ?_ ?_)
     ·intro hc
      rw [if_pos hc] at hr
      refine W_sr (WO_seg 2 [(6, .int .i64 0), (7, .int .i64 6)] kr kr ?_)
      refine WO_et rfl (W_ret ?_)
      refine X_block_ret ?_
      refine X_then_ret ?_
      obtain rfl := Option.some.inj hr
      refine X_ret [.tmp 6, .tmp 7] [.int .i64 0, .int .i64 6] rfl (ResAll.cons (ResAt.tmp kr) (ResAll.cons (ResAt.tmp kr) ResAll.nil)) ?_
      have st := st.front2.front2.front2
      exact ⟨_, rfl, ⟨m3, rfl, hm, st, r1, hb2⟩⟩
     ·intro hc
      rw [if_neg (not_true hc)] at hr
      refine W_skip ?_
      refine X_block ?_
      refine X_then ?_
      refine W_sr (WO_seg 4 [(6, .int .i64 (IntKind.wrap .i64 (p1 + 1))), (7, .int .i64 0)] kr kr ?_)
      refine WO_et rfl (W_ret ?_)
      obtain rfl := Option.some.inj hr
      refine X_ret [.tmp 6, .tmp 7] [.int .i64 (IntKind.wrap .i64 (p1 + 1)), .int .i64 0] rfl (ResAll.cons (ResAt.tmp kr) (ResAll.cons (ResAt.tmp kr) ResAll.nil)) ?_
      have st := st.front2.front2.front2
      exact ⟨_, rfl, ⟨m3, rfl, hm, st, r1, hb2⟩⟩
 ·intro K
  clear hrK
  refine WO_seg 3 [(11, .bool (decide (p1 < 0)))] kr kr ?_
  rcases bcases (decide (p1 < 0)) with hc | hc
  ·rw [if_pos hc] at hr
   refine WO_fact (t := 11) (b := true) (decide (p1 < 0)) kr hc ?_
   refine WO_seg 5 [(16, .bool true)] kr kr ?_
   obtain rfl := Option.some.inj hr
   exact WO_env _ kr (K _ _ ⟨m, rfl, hm, st, r1⟩)
  ·rw [if_neg (not_true hc)] at hr
   refine WO_fact (t := 11) (b := false) (decide (p1 < 0)) kr hc ?_
   refine WO_seg 5 [(16, .bool (decide (p1 > (List.length p0 : Int))))] kr kr ?_
   obtain rfl := Option.some.inj hr
   exact WO_env _ kr (K _ _ ⟨m, rfl, hm, st, r1⟩)
def wire_Frames_L1 (N : Nat) (p0 : List UInt8) (s1 : Int × Int × Int × (List (Int × List UInt8)) × Nat) : Option ((Int × Int × Int × (List (Int × List UInt8)) × Nat) ⊕ ((Int × Int × (List (Int × List UInt8)) × Nat) ⊕ (Int × Int × (List (Int × List UInt8)) × Nat))) :=
 if (decide (s1.1 < (List.length p0 : Int))) = true then ((wire_Next N p0 s1.1).bind fun y1 => (if s1.2.2.2.2 = 0 then (if (y1.2.2 != 0) = true then (some (true, y1.2.2, s1.2.2.1, s1.2.2.2.1, 1)) else ((appendS 32 s1.2.2.2.1 ([(y1.1.1, y1.1.2)])).bind fun l2 => some (y1.2.2 != 0, s1.2.1, y1.2.1, l2, 0))) else none : Option (Bool × Int × Int × (List (Int × List UInt8)) × Nat)).bind fun o3 => if o3.1 = true then (some (.inr (.inr ((o3.2.1, o3.2.2.1, o3.2.2.2.1, o3.2.2.2.2))))) else (some (.inl (y1.2.1, o3.2.1, o3.2.2.1, o3.2.2.2.1, o3.2.2.2.2)))) else (some (.inr (.inl (s1.2.1, s1.2.2.1, s1.2.2.2.1, s1.2.2.2.2))))
def wire_Frames (N : Nat) (p0 : List UInt8) : Option ((List (Int × List UInt8)) × Int × Int) :=
 ((loopM (wire_Frames_L1 N p0) N (0, 0, 0, ([] : List (Int × List UInt8)), 0)).bind fun out1 => (match out1 with | .inl o2 => some (o2.1, o2.2.1, o2.2.2.1, o2.2.2.2) | .inr (z) => some z) : Option (Int × Int × (List (Int × List UInt8)) × Nat)).bind fun o1 => if o1.2.2.2 = 0 then (some (o1.2.2.1, o1.2.1, 0)) else (if o1.2.2.2 = 1 then (some (o1.2.2.1, o1.2.1, o1.1)) else none)
set_option maxHeartbeats 4000000 in
set_option maxRecDepth 100000 in
theorem wire_Frames_ok {N : Nat} {m : Mem} {own : List Piece} {w : World} {p0 : List UInt8} {a1 : Option Addr} {c1 : Nat} {r : (List (Int × List UInt8)) × Int × Int} (st : St m (own) w) (r1 : RepS cU8 m a1 c1 p0) (hr : wire_Frames N p0 = some r) : Calls Tryz.prog 41 #[.slice a1 (List.length p0) c1] w fun e w' => ∃ (ra1 : Option Addr) (rc1 : Nat) (m' : Mem), e = .returned (.tuple #[.slice ra1 (List.length r.1) rc1, .int .i64 r.2.1, .int .i64 r.2.2]) ∧ m.le m' ∧ St m' (.room ra1 (List.length r.1) rc1 37 2 :: own) w' ∧ RepS (cPair (cInt .i64) (cSl cU8)) m' ra1 rc1 r.1 := by
 unfold wire_Frames at hr
 have hm := m.le_refl
 refine W_callsM Tryz.func41 rfl Tryz.ntmps41 [(0, .slice a1 (List.length p0) c1)] kr rfl ?_
 refine W_sr (WO_one rfl (One_alloc (d := 2) (e := 67) (.slice none 0 0) kr rfl kr st ?_))
 clear st
 intro b1 w1 st
 refine WO_one rfl (One_alloc (d := 3) (e := 3) (.int .i64 0) kr rfl kr st ?_)
 clear st
 intro b2 w2 st
 refine WO_one rfl (One_alloc (d := 4) (e := 31) (.int .i64 0) kr rfl kr st ?_)
 clear st
 intro b3 w3 st
 refine WO_et rfl (W_seq ?_)
 refine W_sr (WO_seg 1 [(7, .slice a1 (List.length p0) c1)] kr kr ?_)
 refine WO_one rfl (One_fn 8 61 #[.slice a1 (List.length p0) c1] kr rfl ?_)
 refine W_calls Tryz.func61 rfl Tryz.ntmps61 [(0, .slice a1 (List.length p0) c1)] kr rfl ?_
 refine W_sr (WO_one rfl (One_box_own (d := 1) (e := 23) (x := (.tmp 0)) (.slice a1 (List.length p0) c1) kr rfl kr st ?_))
 clear st
 intro b4 w4 st
 refine WO_seg 1 [] kr kr ?_
 refine WO_et rfl (W_sr ?_)
 refine WO_seg 2 [(2, .func (.func 78) #[] #[.pointer (some ⟨b4, 0, none⟩)])] kr kr ?_
 refine WO_et rfl (W_ret ?_)
 refine X_ret [.tmp 2] [.func (.func 78) #[] #[.pointer (some ⟨b4, 0, none⟩)]] rfl (ResAll.cons (ResAt.tmp kr) ResAll.nil) ?_
 refine ⟨_, rfl, ?_⟩
 refine WO_et rfl (W_block ?_)
 refine W_rangeFunc (f := 78) (cap := #[.pointer (some ⟨b4, 0, none⟩)]) [.ret] kr (enters_at Tryz.func78 kr) st ?_
 clear st
 intro q1 l1 w5 hpq1 haq1 hbq1 htq1 st
 replace ⟨o1, hr, hrKu1⟩ := bindS hr
 refine Calls_cut (fun v' w' => ∃ (a2 : Option Addr) (c2 : Nat) (m2 : Mem), v' = (.tuple #[]) ∧ m.le m2 ∧ St m2 (.blk b4 (.cells #[.slice a1 (List.length p0) c1] 23 (0, 0)) :: .blk b3 (.cells #[.int .i64 o1.1] 31 (0, 0)) :: .blk b2 (.cells #[.int .i64 o1.2.1] 3 (0, 0)) :: .blk b1 (.cells #[.slice a2 (List.length o1.2.2.1) c2] 67 (0, 0)) :: lpiece l1 q1 [.ret] o1.2.2.2 :: dpiece q1.D :: .room a2 (List.length o1.2.2.1) c2 37 2 :: own) w' ∧ RepS cU8 m2 a1 c1 p0 ∧ RepS (cPair (cInt .i64) (cSl cU8)) m2 a2 c2 o1.2.2.1) ?_ ?_
 ·clear hr st
  have hr := hrKu1
  clear hrKu1
  rintro _ w6 ⟨a2, c2, m2, rfl, hm, st, r1, r2⟩
  refine ⟨_, rfl, ?_⟩
  have st := st.front4
  by_cases hj2 : o1.2.2.2 = 0
  ·rw [if_pos hj2] at hr
   rw [hj2] at st
   refine After_none 0 st rfl ?_
   clear st
   intro w27 st
   refine X_block ?_
   refine X_then ?_
   refine W_seq ?_
   refine W_draw [(5, fun w' => Inv m2 w' ∧ True), (3, fun w' => Inv m2 w' ∧ Piece.holds m2 w' (.blk b2 (.cells #[.int .i64 o1.2.1] 3 (0, 0))) ∧ True), (2, fun w' => Inv m2 w' ∧ Piece.holds m2 w' (.blk b1 (.cells #[.slice a2 (List.length o1.2.2.1) c2] 67 (0, 0))) ∧ True)] kr st ?_
   clear st
   intro w28 _ st
   have hmS3 := m2.le_refl
   refine ⟨⟨.inr ⟨Inv.anti st.inv hmS3, trivial⟩, ⟨.inr ⟨Inv.anti st.inv hmS3, Piece.holds_anti st.tail.tail.head hmS3, trivial⟩, ⟨.inr ⟨Inv.anti st.inv hmS3, Piece.holds_anti st.tail.tail.tail.head hmS3, trivial⟩, trivial⟩⟩⟩, ?_⟩
   refine WA_load_own (t := 67) (x := (.tmp 2)) 0 23 (.slice a2 (List.length o1.2.2.1) c2) kr rfl kr (.tail _ (.tail _ (.head _))) (QP_then QP_bodyQ) (fun _ h => h.2.1) (ev (.pointer (some ⟨b1, 0, none⟩))) kr ?_
   refine WA_load_own (t := 3) (x := (.tmp 3)) 1 24 (.int .i64 o1.2.1) kr rfl kr (.tail _ (.head _)) (QP_then QP_bodyQ) (fun _ h => h.2.1) (ev (.pointer (some ⟨b2, 0, none⟩))) kr ?_
   have st := st.front3
   refine WA_one 2 kr  (One_store (t := 67) (x := (.tmp 2)) (y := (.tmp 23)) (v := .slice a2 (List.length o1.2.2.1) c2) (c' := #[.slice a2 (List.length o1.2.2.1) c2]) kr (ev (.pointer (some ⟨b1, 0, none⟩))) (ev (.slice a2 (List.length o1.2.2.1) c2)) st kr kr ?_)
   clear st
   intro w29 st
   refine ⟨⟨.inr ⟨Inv.anti st.inv hmS3, trivial⟩, ⟨.inr ⟨Inv.anti st.inv hmS3, Piece.holds_anti st.tail.tail.tail.head hmS3, trivial⟩, ⟨.inl rfl, trivial⟩⟩⟩, ?_⟩
   have st := st.front3
   refine WA_one 3 kr  (One_store (t := 3) (x := (.tmp 3)) (y := (.tmp 24)) (v := .int .i64 o1.2.1) (c' := #[.int .i64 o1.2.1]) kr (ev (.pointer (some ⟨b2, 0, none⟩))) (ev (.int .i64 o1.2.1)) st kr kr ?_)
   clear st
   intro w30 st
   refine ⟨⟨.inr ⟨Inv.anti st.inv hmS3, trivial⟩, ⟨.inl rfl, ⟨.inl rfl, trivial⟩⟩⟩, ?_⟩
   have st := st.front3
   refine WA_one 4 kr  (One_store (t := 31) (x := (.tmp 4)) (y := (.const (.int .i64 0))) (v := .int .i64 0) (c' := #[.int .i64 0]) kr (ev (.pointer (some ⟨b3, 0, none⟩))) (ev (.int .i64 0)) st kr kr ?_)
   clear st
   intro w31 st
   refine ⟨⟨.inr ⟨Inv.anti st.inv hmS3, trivial⟩, ⟨.inl rfl, ⟨.inl rfl, trivial⟩⟩⟩, ?_⟩
   refine WA_done kr ?_
   refine X_then ?_
   refine W_ret ?_
   obtain rfl := Option.some.inj hr
   have st := st.front4
   refine X_take st ?_
   clear st
   intro w32 st
   refine X_retM [.cell 2 67, .cell 3 3, .cell 4 31] [.slice a2 (List.length o1.2.2.1) c2, .int .i64 o1.2.1, .int .i64 0] rfl (ResAll.cons (ResAt.blk (v := .slice a2 (List.length o1.2.2.1) c2) (o := 0) kr st.tail.tail.head kr) (ResAll.cons (ResAt.blk (v := .int .i64 o1.2.1) (o := 0) kr st.tail.head kr) (ResAll.cons (ResAt.blk (v := .int .i64 0) (o := 0) kr st.head kr) ResAll.nil))) ?_
   have st := st.tail
   have st := st.tail
   have st := st.tail
   have st := st.tail
   exact ⟨a2, c2, m2, rfl, hm, st, r2⟩
  ·rw [if_neg hj2] at hr
   by_cases hj3 : o1.2.2.2 = 1
   ·rw [if_pos hj3] at hr
    rw [hj3] at st
    refine After_some 1 st rfl ?_
    clear st
    intro w33 st
    refine W_ret ?_
    refine X_block_ret ?_
    refine X_then_ret ?_
    obtain rfl := Option.some.inj hr
    have st := st.front4
    refine X_take st ?_
    clear st
    intro w34 st
    refine X_retM [.cell 2 67, .cell 3 3, .cell 4 31] [.slice a2 (List.length o1.2.2.1) c2, .int .i64 o1.2.1, .int .i64 o1.1] rfl (ResAll.cons (ResAt.blk (v := .slice a2 (List.length o1.2.2.1) c2) (o := 0) kr st.tail.tail.tail.head kr) (ResAll.cons (ResAt.blk (v := .int .i64 o1.2.1) (o := 0) kr st.tail.tail.head kr) (ResAll.cons (ResAt.blk (v := .int .i64 o1.1) (o := 0) kr st.tail.head kr) ResAll.nil))) ?_
    have st := st.tail
    have st := st.tail
    have st := st.tail
    have st := st.tail
    exact ⟨a2, c2, m2, rfl, hm, st, r2⟩
   ·rw [if_neg hj3] at hr
    cases hr
 ·clear hrKu1
  refine W_calls Tryz.func78 rfl Tryz.ntmps78 [(0, .func (.yield l1) #[] #[]), (1, .pointer (some ⟨b4, 0, none⟩))] kr rfl ?_
  refine W_sr (WO_seg 1 [(3, .int .i64 0)] kr kr ?_)
  refine WO_et rfl (W_block ?_)
  replace ⟨out1, hr, hrKu2⟩ := bindS hr
  refine W_cut (.exit 0) (fun L' w' => ∃ (o2 : Int × Int × (List (Int × List UInt8)) × Nat) (a3 : Option Addr) (c3 : Nat) (m3 : Mem), (.inl o2) = out1 ∧ L' = [] ∧ m.le m3 ∧ St m3 (.blk b4 (.cells #[.slice a1 (List.length p0) c1] 23 (0, 0)) :: .blk b3 (.cells #[.int .i64 o2.1] 31 (0, 0)) :: .blk b2 (.cells #[.int .i64 o2.2.1] 3 (0, 0)) :: .blk b1 (.cells #[.slice a3 (List.length o2.2.2.1) c3] 67 (0, 0)) :: lpiece l1 q1 [.ret] o2.2.2.2 :: dpiece q1.D :: .room a3 (List.length o2.2.2.1) c3 37 2 :: own) w' ∧ RepS cU8 m3 a1 c1 p0 ∧ RepS (cPair (cInt .i64) (cSl cU8)) m3 a3 c3 o2.2.2.1) ?_ ?_
  ·clear hr st
   rintro _ w7 ⟨o2, a3, c3, m3, rfl, rfl, hm, st, r1, r3⟩
   have hr := hrKu2
   clear hrKu2
   dsimp only at hr
   refine X_block_eq ?_
   obtain rfl := Option.some.inj hr
   refine X_fall [] [] rfl ResAll.nil ?_
   have st := st.front6.front6.front6.front6.front6.front6.front6
   exact ⟨_, rfl, ⟨a3, c3, m3, rfl, hm, st, r1, r3⟩⟩
  intro K0_u2
  have st := st.nilroom 37 2
  have st := st.front2.front2.front6.front6.front6.front6
  refine W_env _ kr (W_loop (fun k1 L' w' => ∃ (s1 : Int × Int × Int × (List (Int × List UInt8)) × Nat) (a4 : Option Addr) (c4 : Nat) (m4 : Mem), loopM (wire_Frames_L1 N p0) k1 s1 = some out1 ∧ L' = [(0, .func (.yield l1) #[] #[]), (1, .pointer (some ⟨b4, 0, none⟩)), (3, .int .i64 s1.1)] ∧ m.le m4 ∧ St m4 (.blk b4 (.cells #[.slice a1 (List.length p0) c1] 23 (0, 0)) :: .blk b3 (.cells #[.int .i64 s1.2.1] 31 (0, 0)) :: .blk b2 (.cells #[.int .i64 s1.2.2.1] 3 (0, 0)) :: .blk b1 (.cells #[.slice a4 (List.length s1.2.2.2.1) c4] 67 (0, 0)) :: lpiece l1 q1 [.ret] s1.2.2.2.2 :: dpiece q1.D :: .room a4 (List.length s1.2.2.2.1) c4 37 2 :: own) w' ∧ RepS cU8 m4 a1 c1 p0 ∧ RepS (cPair (cInt .i64) (cSl cU8)) m4 a4 c4 s1.2.2.2.1) N ⟨(0, 0, 0, ([] : List (Int × List UInt8)), 0), none, 0, m, hr, rfl, hm, st, r1, (RepS.nil _ _)⟩ ?_)
  clear st hr
  rintro k1 _ w8 ⟨s1, a4, c4, m4, hL, rfl, hm, st, r1, r4⟩
  rcases k1 with _ | k1
  ·exact loopM_zero hL
  ·obtain ⟨qu2, hr, hSu2, hBu2⟩ := loopM_succ hL
   clear hL
   unfold wire_Frames_L1 at hr
   refine W_seq ?_
   refine W_sr (WO_seg 1 [(7, .int .i64 s1.1)] kr kr ?_)
   refine WO_one rfl (One_load_own (d := 8) (t := 23) (x := (.tmp 1)) (.slice a1 (List.length p0) c1) kr rfl (ev (.pointer (some ⟨b4, 0, none⟩))) st.head kr ?_)
   refine WO_seg 2 [(10, .bool (decide (s1.1 < (List.length p0 : Int))))] kr kr ?_
   refine WO_et rfl (W_cond (decide (s1.1 < (List.length p0 : Int))) kr ?_ ?_)
   ·intro hc
    rw [if_pos hc] at hr
    refine W_skip ?_
    refine X_then ?_
    refine W_block ?_
    refine W_sr (WO_one rfl (One_load_own (d := 12) (t := 23) (x := (.tmp 1)) (.slice a1 (List.length p0) c1) kr rfl (ev (.pointer (some ⟨b4, 0, none⟩))) st.head kr ?_))
    refine WO_seg 1 [(13, .int .i64 s1.1)] kr kr ?_
    replace ⟨y1, hx1, hr⟩ := bindS hr
    refine WO_one rfl (One_fn 14 79 #[.slice a1 (List.length p0) c1, .int .i64 s1.1] kr rfl ?_)
    refine (wire_Next_ok st r1 hx1).mono ?_
    clear st
    rintro _ w9 ⟨a5, c5, m5, rfl, hle2, st, r5⟩
    refine ⟨_, rfl, ?_⟩
    have hm := Mem.le_trans hm hle2
    have r1 := r1.mono hle2
    have r4 := r4.mono hle2
    refine WO_seg 4 [(15, .agg #[.int .i64 y1.1.1, .slice a5 (List.length y1.1.2) c5]), (16, .int .i64 y1.2.1), (17, .int .i64 y1.2.2)] kr kr ?_
    refine WO_one rfl (One_alloc (d := 4) (e := 37) (.agg #[.int .i64 0, .slice none 0 0]) kr rfl kr st ?_)
    clear st
    intro b5 w10 st
    refine WO_one rfl (One_store (t := 37) (x := (.tmp 4)) (y := (.tmp 15)) (v := .agg #[.int .i64 y1.1.1, .slice a5 (List.length y1.1.2) c5]) (c' := #[.int .i64 y1.1.1, .slice a5 (List.length y1.1.2) c5]) kr (ev (.pointer (some ⟨b5, 0, none⟩))) (ev (.agg #[.int .i64 y1.1.1, .slice a5 (List.length y1.1.2) c5])) st kr kr ?_)
    clear st
    intro w11 st
    refine WO_seg 2 [(5, .int .i64 y1.2.1), (6, .int .i64 y1.2.2)] kr kr ?_
    refine WO_et rfl (W_seq ?_)
    refine W_sr ?_
    replace ⟨o3, hr, hrK⟩ := bindS hr
    refine WO_cut (j := 11) (fun L' w' => ∃ (a6 : Option Addr) (c6 : Nat) (m6 : Mem), L' = [(0, .func (.yield l1) #[] #[]), (1, .pointer (some ⟨b4, 0, none⟩)), (5, .int .i64 y1.2.1), (28, .bool o3.1)] ∧ m.le m6 ∧ St m6 (.blk b5 (.cells #[.int .i64 y1.1.1, .slice a5 (List.length y1.1.2) c5] 37 (0, 0)) :: .blk b4 (.cells #[.slice a1 (List.length p0) c1] 23 (0, 0)) :: .blk b3 (.cells #[.int .i64 o3.2.1] 31 (0, 0)) :: .blk b2 (.cells #[.int .i64 o3.2.2.1] 3 (0, 0)) :: .blk b1 (.cells #[.slice a6 (List.length o3.2.2.2.1) c6] 67 (0, 0)) :: lpiece l1 q1 [.ret] o3.2.2.2.2 :: dpiece q1.D :: .room a5 (List.length y1.1.2) c5 5 1 :: .room a6 (List.length o3.2.2.2.1) c6 37 2 :: own) w' ∧ RepS cU8 m6 a5 c5 y1.1.2 ∧ RepS cU8 m6 a1 c1 p0 ∧ RepS (cPair (cInt .i64) (cSl cU8)) m6 a6 c6 o3.2.2.2.1) ?_ ?_
    ·clear hr st
     have hr := hrK
     clear hrK
     rintro _ w12 ⟨a6, c6, m6, rfl, hm, st, r5, r1, r6⟩
     refine WO_et rfl (W_cond o3.1 kr ?_ ?_)
     ·intro hc
      rw [if_pos hc] at hr
      refine W_ret ?_
      refine X_then_ret ?_
      refine X_block_ret ?_
      obtain rfl := Option.some.inj hr
      have ho := hBu2 _ rfl
      subst ho
      have hr := hrKu2
      dsimp only at hr
      refine X_then_ret ?_
      refine X_block_ret ?_
      obtain rfl := Option.some.inj hr
      refine X_ret [] [] rfl ResAll.nil ?_
      have st := st.tail
      have st := st.front6
      have st := st.tail
      have st := st.front6.front6.front6.front6.front6.front6.front6
      exact ⟨_, rfl, ⟨a6, c6, m6, rfl, hm, st, r1, r6⟩⟩
     ·intro hc
      rw [if_neg (not_true hc)] at hr
      refine W_skip ?_
      refine X_then ?_
      refine W_region ?_
      refine WO_seg 2 [(3, .int .i64 y1.2.1)] kr kr ?_
      refine WO_end rfl ?_
      refine X_block ?_
      obtain rfl := Option.some.inj hr
      have hL := hSu2 _ rfl
      have st := st.tail
      have st := st.front6
      have st := st.tail
      have st := st.front6.front6.front6.front6.front6.front6.front6
      exact X_env _ kr (X_round k1 (Nat.lt_succ_self _) ⟨(y1.2.1, o3.2.1, o3.2.2.1, o3.2.2.2.1, o3.2.2.2.2), a6, c6, m6, hL, rfl, hm, st, r1, r6⟩)
    ·intro K
     clear hrK
     refine WO_seg 1 [(18, .func (.yield l1) #[] #[])] kr kr ?_
     refine WO_one rfl (One_load_own (d := 19) (t := 37) (x := (.tmp 4)) (.agg #[.int .i64 y1.1.1, .slice a5 (List.length y1.1.2) c5]) kr rfl (ev (.pointer (some ⟨b5, 0, none⟩))) st.head kr ?_)
     refine WO_seg 3 [(21, .agg #[.int .i64 y1.1.1, .slice a5 (List.length y1.1.2) c5, .int .i64 y1.2.1]), (22, .int .i64 y1.2.2)] kr kr ?_
     have st := st.front6
     by_cases hj1 : s1.2.2.2.2 = 0
     ·rw [if_pos hj1] at hr
      rw [hj1] at st
      refine WO_one rfl (One_yield (d := 23) (l := l1) (x := (.tmp 18)) (xs := #[(.tmp 21), (.tmp 22)]) (ts := #[96, 31]) [.agg #[.int .i64 y1.1.1, .slice a5 (List.length y1.1.2) c5, .int .i64 y1.2.1], .int .i64 y1.2.2] kr rfl (ev (.func (.yield l1) #[] #[])) kr htq1 hpq1 haq1 hbq1 rfl kr st ?_)
      intro R1 hR1
      refine W_seq ?_
      refine W_regionR rfl ?_
      refine WO_one rfl (One_alloc (d := 5) (e := 96) (.agg #[.int .i64 0, .slice none 0 0, .int .i64 0]) kr rfl kr st ?_)
      clear st
      intro b6 w13 st
      refine WO_one rfl (One_store (t := 96) (x := (.tmp 5)) (y := (.tmp 9)) (v := .agg #[.int .i64 y1.1.1, .slice a5 (List.length y1.1.2) c5, .int .i64 y1.2.1]) (c' := #[.int .i64 y1.1.1, .slice a5 (List.length y1.1.2) c5, .int .i64 y1.2.1]) kr (ev (.pointer (some ⟨b6, 0, none⟩))) (ev (.agg #[.int .i64 y1.1.1, .slice a5 (List.length y1.1.2) c5, .int .i64 y1.2.1])) st kr kr ?_)
      clear st
      intro w14 st
      refine WO_et rfl (W_regionR rfl ?_)
      refine WO_seg 1 [(6, .int .i64 y1.2.2)] kr kr ?_
      refine WO_end rfl ?_
      have st := st.front1
      refine X_begin st ?_
      clear st
      intro w15 st
      refine W_block ?_
      refine W_seq ?_
      refine W_seq ?_
      refine W_regionR rfl ?_
      refine WO_seg 2 [(12, .bool (y1.2.2 != 0))] kr kr ?_
      refine WO_et rfl (W_cond (y1.2.2 != 0) kr ?_ ?_)
      ·intro hc
       rw [if_pos hc] at hr
       refine W_seq ?_
       refine W_drawR rfl [(6, fun w' => Inv m5 w' ∧ True), (4, fun w' => Inv m5 w' ∧ Piece.holds m5 w' (.blk b2 (.cells #[.int .i64 s1.2.2.1] 3 (0, 0))) ∧ True), (3, fun w' => Inv m5 w' ∧ Piece.holds m5 w' (.blk b1 (.cells #[.slice a4 (List.length s1.2.2.2.1) c4] 67 (0, 0))) ∧ True)] kr st ?_
       clear st
       intro w16 _ st
       have hmS1 := m5.le_refl
       refine ⟨⟨.inr ⟨Inv.anti st.inv hmS1, trivial⟩, ⟨.inr ⟨Inv.anti st.inv hmS1, Piece.holds_anti st.tail.tail.tail.tail.tail.tail.head hmS1, trivial⟩, ⟨.inr ⟨Inv.anti st.inv hmS1, Piece.holds_anti st.tail.tail.tail.tail.tail.tail.tail.head hmS1, trivial⟩, trivial⟩⟩⟩, ?_⟩
       refine WA_load_own (t := 67) (x := (.tmp 2)) 0 13 (.slice a4 (List.length s1.2.2.2.1) c4) kr rfl kr (.tail _ (.tail _ (.head _))) (QP_then (QP_then (QP_block QP_round))) (fun _ h => h.2.1) (ev (.pointer (some ⟨b1, 0, none⟩))) kr ?_
       refine WA_load_own (t := 3) (x := (.tmp 3)) 1 14 (.int .i64 s1.2.2.1) kr rfl kr (.tail _ (.head _)) (QP_then (QP_then (QP_block QP_round))) (fun _ h => h.2.1) (ev (.pointer (some ⟨b2, 0, none⟩))) kr ?_
       refine WA_pure 2 15 (.int .i64 y1.2.2) kr rfl kr (.head _) (QP_then (QP_then (QP_block QP_round))) ?_
       have st := st.front7
       refine WA_one 3 kr  (One_store (t := 67) (x := (.tmp 2)) (y := (.tmp 13)) (v := .slice a4 (List.length s1.2.2.2.1) c4) (c' := #[.slice a4 (List.length s1.2.2.2.1) c4]) kr (ev (.pointer (some ⟨b1, 0, none⟩))) (ev (.slice a4 (List.length s1.2.2.2.1) c4)) st kr kr ?_)
       clear st
       intro w17 st
       refine ⟨⟨.inr ⟨Inv.anti st.inv hmS1, trivial⟩, ⟨.inr ⟨Inv.anti st.inv hmS1, Piece.holds_anti st.tail.tail.tail.tail.tail.tail.tail.head hmS1, trivial⟩, ⟨.inl rfl, trivial⟩⟩⟩, ?_⟩
       have st := st.front7
       refine WA_one 4 kr  (One_store (t := 3) (x := (.tmp 3)) (y := (.tmp 14)) (v := .int .i64 s1.2.2.1) (c' := #[.int .i64 s1.2.2.1]) kr (ev (.pointer (some ⟨b2, 0, none⟩))) (ev (.int .i64 s1.2.2.1)) st kr kr ?_)
       clear st
       intro w18 st
       refine ⟨⟨.inr ⟨Inv.anti st.inv hmS1, trivial⟩, ⟨.inl rfl, ⟨.inl rfl, trivial⟩⟩⟩, ?_⟩
       have st := st.front7
       refine WA_one 5 kr  (One_store (t := 31) (x := (.tmp 4)) (y := (.tmp 15)) (v := .int .i64 y1.2.2) (c' := #[.int .i64 y1.2.2]) kr (ev (.pointer (some ⟨b3, 0, none⟩))) (ev (.int .i64 y1.2.2)) st kr kr ?_)
       clear st
       intro w19 st
       refine ⟨⟨.inr ⟨Inv.anti st.inv hmS1, trivial⟩, ⟨.inl rfl, ⟨.inl rfl, trivial⟩⟩⟩, ?_⟩
       refine WA_done kr ?_
       refine X_then ?_
       refine W_ret ?_
       refine X_then_ret ?_
       refine X_block_ret ?_
       have st := st.front3
       refine X_roundR [.ret] 0 rfl st ?_
       clear st
       intro w20 st
       refine hR1 false _ ?_
       refine WO_seg 5 [(28, .bool true)] kr kr ?_
       obtain rfl := Option.some.inj hr
       have st := st.front4
       have st := st.tail
       have st := st.front8.front6.front8.front3.front6.front6.front6.front8.front8
       exact WO_env _ kr (K _ _ ⟨a4, c4, m5, rfl, hm, st, r5, r1, r4⟩)
      ·intro hc
       rw [if_neg (not_true hc)] at hr
       refine W_skip ?_
       refine X_then ?_
       refine W_drawR rfl [(9, fun w' => Inv m5 w' ∧ Piece.holds m5 w' (.blk b6 (.cells #[.int .i64 y1.1.1, .slice a5 (List.length y1.1.2) c5, .int .i64 y1.2.1] 96 (0, 0))) ∧ True), (7, fun w' => Inv m5 w' ∧ Piece.holds m5 w' (.blk b1 (.cells #[.slice a4 (List.length s1.2.2.2.1) c4] 67 (0, 0))) ∧ True)] kr st ?_
       clear st
       intro w21 _ st
       have hmS2 := m5.le_refl
       refine ⟨⟨.inr ⟨Inv.anti st.inv hmS2, Piece.holds_anti st.tail.head hmS2, trivial⟩, ⟨.inr ⟨Inv.anti st.inv hmS2, Piece.holds_anti st.tail.tail.tail.tail.tail.tail.tail.head hmS2, trivial⟩, trivial⟩⟩, ?_⟩
       refine WA_load_own (t := 67) (x := (.tmp 2)) 0 16 (.slice a4 (List.length s1.2.2.2.1) c4) kr rfl kr (.tail _ (.head _)) (QP_block QP_round) (fun _ h => h.2.1) (ev (.pointer (some ⟨b1, 0, none⟩))) kr ?_
       refine WA_pure 1 17 (.pointer (some ⟨b6, 0, none⟩)) kr rfl kr (.head _) (QP_block QP_round) ?_
       refine WA_load_own (t := 37) (x := (.tmp 17)) 2 18 (.agg #[.int .i64 y1.1.1, .slice a5 (List.length y1.1.2) c5]) kr rfl kr (.head _) (QP_block QP_round) (fun _ h => h.2.1) (ev (.pointer (some ⟨b6, 0, none⟩))) kr ?_
       refine WA_pure 5 21 (.pointer (some ⟨b6, 2, none⟩)) kr rfl kr (.head _) (QP_block QP_round) ?_
       refine WA_load_own (t := 3) (x := (.tmp 21)) 6 22 (.int .i64 y1.2.1) kr rfl kr (.head _) (QP_block QP_round) (fun _ h => h.2.1) (ev (.pointer (some ⟨b6, 2, none⟩))) kr ?_
       refine WA_one 3 kr  (One_buildSlice (d := 19) (t := 67) (e := 37) (len := 1) (parts := #[(0, (.tmp 18))]) (cPair (cInt .i64) (cSl cU8)) (xs := [(y1.1.1, y1.1.2)]) [.int .i64 y1.1.1, .slice a5 (List.length y1.1.2) c5] kr rfl (fun _ => buildCells_run kr _) rfl rfl st ⟨[.int .i64 y1.1.1, .slice a5 (List.length y1.1.2) c5], _, rfl, ⟨_, _, rfl, rfl, (cSl_mk r5)⟩, rfl⟩ ?_)
       clear st
       intro b7 m7 w22 hle3 st r7
       have hm := Mem.le_trans hm hle3
       have r4 := r4.mono hle3
       have r5 := r5.mono hle3
       have r1 := r1.mono hle3
       have hmS2 := Mem.le_trans hmS2 hle3
       refine ⟨⟨.inr ⟨Inv.anti st.inv hmS2, Piece.holds_anti st.tail.tail.head hmS2, trivial⟩, ⟨.inr ⟨Inv.anti st.inv hmS2, Piece.holds_anti st.tail.tail.tail.tail.tail.tail.tail.tail.head hmS2, trivial⟩, trivial⟩⟩, ?_⟩
       have st := st.front10
       replace ⟨l2, hx2, hr⟩ := bindS hr
       refine WA_one 4 kr  (One_append (d := 20) (t := 67) (u := 67) (e := 37) (by_ := 32) (x := (.tmp 16)) (y := (.tmp 19)) (cPair (cInt .i64) (cSl cU8)) kr rfl (ev (.slice a4 (List.length s1.2.2.2.1) c4)) (ev (.slice (some ⟨b7, 0, none⟩) (List.length ([(y1.1.1, y1.1.2)])) 1)) st kr (.inl kr) r4 r7.src hx2 ?_)
       clear st
       intro a7 c7 m8 w23 hle4 st r8
       have hm := Mem.le_trans hm hle4
       have r4 := r4.mono hle4
       have r5 := r5.mono hle4
       have r7 := r7.mono hle4
       have r1 := r1.mono hle4
       have hmS2 := Mem.le_trans hmS2 hle4
       refine ⟨⟨.inr ⟨Inv.anti st.inv hmS2, Piece.holds_anti st.tail.tail.tail.head hmS2, trivial⟩, ⟨.inr ⟨Inv.anti st.inv hmS2, Piece.holds_anti st.tail.tail.tail.tail.tail.tail.tail.tail.tail.head hmS2, trivial⟩, trivial⟩⟩, ?_⟩
       have st := st.front9
       refine WA_one 7 kr  (One_store (t := 67) (x := (.tmp 2)) (y := (.tmp 20)) (v := .slice a7 (List.length l2) c7) (c' := #[.slice a7 (List.length l2) c7]) kr (ev (.pointer (some ⟨b1, 0, none⟩))) (ev (.slice a7 (List.length l2) c7)) st kr kr ?_)
       clear st
       intro w24 st
       refine ⟨⟨.inr ⟨Inv.anti st.inv hmS2, Piece.holds_anti st.tail.tail.tail.tail.head hmS2, trivial⟩, ⟨.inl rfl, trivial⟩⟩, ?_⟩
       have st := st.front9
       refine WA_one 8 kr  (One_store (t := 3) (x := (.tmp 3)) (y := (.tmp 22)) (v := .int .i64 y1.2.1) (c' := #[.int .i64 y1.2.1]) kr (ev (.pointer (some ⟨b2, 0, none⟩))) (ev (.int .i64 y1.2.1)) st kr kr ?_)
       clear st
       intro w25 st
       refine ⟨⟨.inr ⟨Inv.anti st.inv hmS2, Piece.holds_anti st.tail.tail.tail.tail.tail.head hmS2, trivial⟩, ⟨.inl rfl, trivial⟩⟩, ?_⟩
       refine WA_done kr ?_
       have st := st.front3
       have st := st.tail
       refine X_block ?_
       have st := st.front3
       refine X_roundN [.ret] st ?_
       clear st
       intro w26 st
       refine hR1 true _ ?_
       refine WO_seg 5 [(28, .bool (y1.2.2 != 0))] kr kr ?_
       obtain rfl := Option.some.inj hr
       have st := st.front4
       have st := st.tail
       have st := st.front3.front5.front8.front3.front5.front5.front8.front8.front8
       exact WO_env _ kr (K _ _ ⟨a7, c7, m8, rfl, hm, st, r5, r1, r8⟩)
     ·rw [if_neg hj1] at hr
      cases hr
   ·intro hc
    rw [if_neg (not_true hc)] at hr
    refine W_exit ?_
    refine X_then_exit ?_
    obtain rfl := Option.some.inj hr
    have ho := hBu2 _ rfl
    have st := st.front6.front6.front6.front6.front6.front6.front6
    refine X_then_exit ?_
    exact X_env _ kr (K0_u2 _ _ ⟨(s1.2.1, s1.2.2.1, s1.2.2.2.1, s1.2.2.2.2), a4, c4, m4, ho, rfl, hm, st, r1, r4⟩)
def wire_Text (N : Nat) (p0 : List UInt8) (p1 : Int) (p2 : Int) : Option (ByteArray × Int × Int) :=
 (wire_Uint N p0 p1).bind fun y1 => if (y1.2.2 != 0) = true then (some ((⟨#[]⟩ : ByteArray), 0, y1.2.2)) else ((if (decide (p2 < 0)) = true then (some true) else (some (decide (y1.1 > (IntKind.wrap .u64 p2)))) : Option (Bool)).bind fun o1 => if o1 = true then (some ((⟨#[]⟩ : ByteArray), 0, 2)) else (if (decide (y1.1 > (IntKind.wrap .u64 (IntKind.wrap .i64 ((List.length p0 : Int) - y1.2.1))))) = true then (some ((⟨#[]⟩ : ByteArray), 0, 7)) else ((subS p0 y1.2.1 (IntKind.wrap .i64 (y1.2.1 + (IntKind.wrap .i64 y1.1)))).bind fun l1 => some (strOf l1, IntKind.wrap .i64 (y1.2.1 + (IntKind.wrap .i64 y1.1)), 0))))
set_option maxHeartbeats 4000000 in
set_option maxRecDepth 100000 in
theorem wire_Text_ok {N : Nat} {m : Mem} {own : List Piece} {w : World} {p0 : List UInt8} {p1 : Int} {p2 : Int} {a1 : Option Addr} {c1 : Nat} {r : ByteArray × Int × Int} (st : St m (own) w) (r1 : RepS cU8 m a1 c1 p0) (hr : wire_Text N p0 p1 p2 = some r) : Calls Tryz.prog 62 #[.slice a1 (List.length p0) c1, .int .i64 p1, .int .i64 p2] w fun e w' => ∃ (m' : Mem), e = .returned (.tuple #[.string r.1, .int .i64 r.2.1, .int .i64 r.2.2]) ∧ m.le m' ∧ St m' (own) w' := by
 unfold wire_Text at hr
 have hm := m.le_refl
 refine W_calls Tryz.func62 rfl Tryz.ntmps62 [(0, .slice a1 (List.length p0) c1), (1, .int .i64 p1), (2, .int .i64 p2)] kr rfl ?_
 refine W_sr (WO_seg 3 [] kr kr ?_)
 refine WO_et rfl (W_sr ?_)
 refine WO_seg 2 [(12, .slice a1 (List.length p0) c1), (13, .int .i64 p1)] kr kr ?_
 replace ⟨y1, hx1, hr⟩ := bindS hr
 refine WO_one rfl (One_fn 14 63 #[.slice a1 (List.length p0) c1, .int .i64 p1] kr rfl ?_)
 refine (wire_Uint_ok st r1 hx1).mono ?_
 clear st
 rintro _ w1 ⟨m1, rfl, hle1, st⟩
 refine ⟨_, rfl, ?_⟩
 have hm := Mem.le_trans hm hle1
 have r1 := r1.mono hle1
 refine WO_seg 7 [(9, .int .u64 y1.1), (7, .int .i64 y1.2.1), (8, .int .i64 y1.2.2)] kr kr ?_
 refine WO_et rfl (W_seq ?_)
 refine W_block ?_
 refine W_sr (WO_seg 3 [(18, .bool (y1.2.2 != 0))] kr kr ?_)
 refine WO_et rfl (W_cond (y1.2.2 != 0) kr ?_ ?_)
 ·intro hc
  rw [if_pos hc] at hr
  refine W_sr (WO_seg 4 [(6, .string (⟨#[]⟩ : ByteArray)), (7, .int .i64 0), (8, .int .i64 y1.2.2)] kr kr ?_)
  refine WO_et rfl (W_ret ?_)
  refine X_block_ret ?_
  refine X_then_ret ?_
  obtain rfl := Option.some.inj hr
  refine X_ret [.tmp 6, .tmp 7, .tmp 8] [.string (⟨#[]⟩ : ByteArray), .int .i64 0, .int .i64 y1.2.2] rfl (ResAll.cons (ResAt.tmp kr) (ResAll.cons (ResAt.tmp kr) (ResAll.cons (ResAt.tmp kr) ResAll.nil))) ?_
  exact ⟨m1, rfl, hm, st⟩
 ·intro hc
  rw [if_neg (not_true hc)] at hr
  refine W_sr ?_
  replace ⟨o1, hr, hrK⟩ := bindS hr
  refine WO_cut (j := 9) (fun L' w' => ∃ (m2 : Mem), L' = [(0, .slice a1 (List.length p0) c1), (7, .int .i64 y1.2.1), (9, .int .u64 y1.1), (22, .bool o1)] ∧ m.le m2 ∧ St m2 (own) w' ∧ RepS cU8 m2 a1 c1 p0) ?_ ?_
  ·clear hr st
   have hr := hrK
   clear hrK
   rintro _ w2 ⟨m2, rfl, hm, st, r1⟩
   refine WO_et rfl (W_cond o1 kr ?_ ?_)
   ·intro hc
    rw [if_pos hc] at hr
    refine W_sr (WO_seg 3 [(6, .string (⟨#[]⟩ : ByteArray)), (7, .int .i64 0), (8, .int .i64 2)] kr kr ?_)
    refine WO_et rfl (W_ret ?_)
    refine X_block_ret ?_
    refine X_then_ret ?_
    obtain rfl := Option.some.inj hr
    refine X_ret [.tmp 6, .tmp 7, .tmp 8] [.string (⟨#[]⟩ : ByteArray), .int .i64 0, .int .i64 2] rfl (ResAll.cons (ResAt.tmp kr) (ResAll.cons (ResAt.tmp kr) (ResAll.cons (ResAt.tmp kr) ResAll.nil))) ?_
    exact ⟨m2, rfl, hm, st⟩
   ·intro hc
    rw [if_neg (not_true hc)] at hr
    refine W_sr (WO_seg 8 [(31, .bool (decide (y1.1 > (IntKind.wrap .u64 (IntKind.wrap .i64 ((List.length p0 : Int) - y1.2.1))))))] kr kr ?_)
    refine WO_et rfl (W_cond (decide (y1.1 > (IntKind.wrap .u64 (IntKind.wrap .i64 ((List.length p0 : Int) - y1.2.1))))) kr ?_ ?_)
    ·intro hc
     rw [if_pos hc] at hr
     refine W_sr (WO_seg 3 [(6, .string (⟨#[]⟩ : ByteArray)), (7, .int .i64 0), (8, .int .i64 7)] kr kr ?_)
     refine WO_et rfl (W_ret ?_)
     refine X_block_ret ?_
     refine X_then_ret ?_
     obtain rfl := Option.some.inj hr
     refine X_ret [.tmp 6, .tmp 7, .tmp 8] [.string (⟨#[]⟩ : ByteArray), .int .i64 0, .int .i64 7] rfl (ResAll.cons (ResAt.tmp kr) (ResAll.cons (ResAt.tmp kr) (ResAll.cons (ResAt.tmp kr) ResAll.nil))) ?_
     exact ⟨m2, rfl, hm, st⟩
    ·intro hc
     rw [if_neg (not_true hc)] at hr
     refine W_skip ?_
     refine X_block ?_
     refine X_then ?_
     refine W_sr (WO_seg 5 [(10, .int .i64 (IntKind.wrap .i64 (y1.2.1 + (IntKind.wrap .i64 y1.1))))] kr kr ?_)
     refine WO_et rfl (W_sr ?_)
     refine WO_seg 3 [(43, .slice a1 (List.length p0) c1), (44, .int .i64 y1.2.1), (45, .int .i64 (IntKind.wrap .i64 (y1.2.1 + (IntKind.wrap .i64 y1.1))))] kr kr ?_
     replace ⟨l1, hx2, hr⟩ := bindS hr
     refine WO_one rfl (One_slice (d := 46) (t := 23) (e := 5) (x := (.tmp 43)) (lo := (some (.tmp 44))) (hi := (some (.tmp 45))) cU8 kr rfl (ev (.slice a1 (List.length p0) c1)) kr r1 (.inr ⟨_, _, rfl, (ev (.int .i64 y1.2.1))⟩) (.inr ⟨_, _, rfl, (ev (.int .i64 (IntKind.wrap .i64 (y1.2.1 + (IntKind.wrap .i64 y1.1)))))⟩) hx2 ?_)
     intro a2 c2 r2
     refine WO_one rfl (One_bytesStr (d := 47) (t1 := 23) (t2 := 9) (e := 5) (x := (.tmp 46)) kr rfl (ev (.slice a2 (List.length l1) c2)) kr kr st r2 ?_)
     refine WO_seg 4 [(6, .string (strOf l1)), (7, .int .i64 (IntKind.wrap .i64 (y1.2.1 + (IntKind.wrap .i64 y1.1)))), (8, .int .i64 0)] kr kr ?_
     refine WO_et rfl (W_ret ?_)
     obtain rfl := Option.some.inj hr
     refine X_ret [.tmp 6, .tmp 7, .tmp 8] [.string (strOf l1), .int .i64 (IntKind.wrap .i64 (y1.2.1 + (IntKind.wrap .i64 y1.1))), .int .i64 0] rfl (ResAll.cons (ResAt.tmp kr) (ResAll.cons (ResAt.tmp kr) (ResAll.cons (ResAt.tmp kr) ResAll.nil))) ?_
     exact ⟨m2, rfl, hm, st⟩
  ·intro K
   clear hrK
   refine WO_seg 3 [(25, .bool (decide (p2 < 0)))] kr kr ?_
   rcases bcases (decide (p2 < 0)) with hc | hc
   ·rw [if_pos hc] at hr
    refine WO_fact (t := 25) (b := true) (decide (p2 < 0)) kr hc ?_
    refine WO_seg 6 [(22, .bool true)] kr kr ?_
    obtain rfl := Option.some.inj hr
    exact WO_env _ kr (K _ _ ⟨m1, rfl, hm, st, r1⟩)
   ·rw [if_neg (not_true hc)] at hr
    refine WO_fact (t := 25) (b := false) (decide (p2 < 0)) kr hc ?_
    refine WO_seg 6 [(22, .bool (decide (y1.1 > (IntKind.wrap .u64 p2))))] kr kr ?_
    obtain rfl := Option.some.inj hr
    exact WO_env _ kr (K _ _ ⟨m1, rfl, hm, st, r1⟩)
def revision_payload_text (N : Nat) (p0 : List UInt8 × Int × Bool) : Option ((List UInt8 × Int × Bool) × ByteArray) :=
 (wire_Text N p0.1 p0.2.1 (List.length p0.1 : Int)).bind fun y1 => if (y1.2.2 != 0) = true then (some ((p0.1, p0.2.1, true), (⟨#[]⟩ : ByteArray))) else (some ((p0.1, y1.2.1, p0.2.2), y1.1))
set_option maxHeartbeats 4000000 in
set_option maxRecDepth 100000 in
theorem revision_payload_text_ok {N : Nat} {m : Mem} {own : List Piece} {w : World} {p0 : List UInt8 × Int × Bool} {bp0 : Nat} {a1 : Option Addr} {c1 : Nat} {r : (List UInt8 × Int × Bool) × ByteArray} (st : St m (.blk bp0 (.cells #[.slice a1 (List.length p0.1) c1, .int .i64 p0.2.1, .bool p0.2.2] 72 (0, 0)) :: own) w) (r1 : RepS cU8 m a1 c1 p0.1) (hr : revision_payload_text N p0 = some r) : Calls Tryz.prog 42 #[.pointer (some ⟨bp0, 0, none⟩)] w fun e w' => ∃ (ra1 : Option Addr) (rc1 : Nat) (m' : Mem), e = .returned (.string r.2) ∧ m.le m' ∧ St m' (.blk bp0 (.cells #[.slice ra1 (List.length r.1.1) rc1, .int .i64 r.1.2.1, .bool r.1.2.2] 72 (0, 0)) :: own) w' ∧ RepS cU8 m' ra1 rc1 r.1.1 := by
 unfold revision_payload_text at hr
 have hm := m.le_refl
 refine W_calls Tryz.func42 rfl Tryz.ntmps42 [(0, .pointer (some ⟨bp0, 0, none⟩))] kr rfl ?_
 refine W_sr (WO_seg 1 [] kr kr ?_)
 refine WO_et rfl (W_seq ?_)
 refine W_draw [(21, fun w' => Inv m w' ∧ Piece.holds m w' (.blk bp0 (.cells #[.slice a1 (List.length p0.1) c1, .int .i64 p0.2.1, .bool p0.2.2] 72 (0, 0))) ∧ True)] kr st ?_
 clear st
 intro w1 _ st
 have hmS1 := m.le_refl
 refine ⟨⟨.inr ⟨Inv.anti st.inv hmS1, Piece.holds_anti st.head hmS1, trivial⟩, trivial⟩, ?_⟩
 refine WA_pure 0 7 (.pointer (some ⟨bp0, 0, none⟩)) kr rfl kr (.head _) (QP_then QP_body) ?_
 refine WA_pure 1 8 (.pointer (some ⟨bp0, 0, none⟩)) kr rfl kr (.head _) (QP_then QP_body) ?_
 refine WA_pure 2 9 (.pointer (some ⟨bp0, 0, none⟩)) kr rfl kr (.head _) (QP_then QP_body) ?_
 refine WA_load_own (t := 23) (x := (.tmp 9)) 3 10 (.slice a1 (List.length p0.1) c1) kr rfl kr (.head _) (QP_then QP_body) (fun _ h => h.2.1) (ev (.pointer (some ⟨bp0, 0, none⟩))) kr ?_
 refine WA_pure 4 11 (.pointer (some ⟨bp0, 0, none⟩)) kr rfl kr (.head _) (QP_then QP_body) ?_
 refine WA_pure 5 12 (.pointer (some ⟨bp0, 0, none⟩)) kr rfl kr (.head _) (QP_then QP_body) ?_
 refine WA_pure 6 13 (.pointer (some ⟨bp0, 1, none⟩)) kr rfl kr (.head _) (QP_then QP_body) ?_
 refine WA_load_own (t := 3) (x := (.tmp 13)) 7 14 (.int .i64 p0.2.1) kr rfl kr (.head _) (QP_then QP_body) (fun _ h => h.2.1) (ev (.pointer (some ⟨bp0, 1, none⟩))) kr ?_
 refine WA_pure 8 15 (.pointer (some ⟨bp0, 0, none⟩)) kr rfl kr (.head _) (QP_then QP_body) ?_
 refine WA_pure 9 16 (.pointer (some ⟨bp0, 0, none⟩)) kr rfl kr (.head _) (QP_then QP_body) ?_
 refine WA_pure 10 17 (.pointer (some ⟨bp0, 0, none⟩)) kr rfl kr (.head _) (QP_then QP_body) ?_
 refine WA_load_own (t := 23) (x := (.tmp 17)) 11 18 (.slice a1 (List.length p0.1) c1) kr rfl kr (.head _) (QP_then QP_body) (fun _ h => h.2.1) (ev (.pointer (some ⟨bp0, 0, none⟩))) kr ?_
 refine WA_pure 12 19 (.int .i64 (List.length p0.1 : Int)) kr rfl kr (.head _) (QP_then QP_body) ?_
 replace ⟨y1, hx1, hr⟩ := bindS hr
 refine WA_one 13 kr  (One_fn 20 62 #[.slice a1 (List.length p0.1) c1, .int .i64 p0.2.1, .int .i64 (List.length p0.1 : Int)] kr rfl ?_)
 refine (wire_Text_ok st r1 hx1).mono ?_
 clear st
 rintro _ w2 ⟨m1, rfl, hle1, st⟩
 refine ⟨_, rfl, ?_⟩
 have hm := Mem.le_trans hm hle1
 have r1 := r1.mono hle1
 have hmS1 := Mem.le_trans hmS1 hle1
 refine ⟨⟨.inr ⟨Inv.anti st.inv hmS1, Piece.holds_anti st.head hmS1, trivial⟩, trivial⟩, ?_⟩
 refine WA_pure 14 6 (.tuple #[.string y1.1, .int .i64 y1.2.1, .int .i64 y1.2.2]) kr rfl kr (.head _) (QP_then QP_body) ?_
 refine WA_pure 15 21 (.string y1.1) kr rfl kr (.head _) (QP_then QP_body) ?_
 refine WA_pure 16 22 (.int .i64 y1.2.1) kr rfl kr (.head _) (QP_then QP_body) ?_
 refine WA_pure 17 23 (.int .i64 y1.2.2) kr rfl kr (.head _) (QP_then QP_body) ?_
 refine WA_pure 18 3 (.string y1.1) kr rfl kr (.head _) (QP_then QP_body) ?_
 refine WA_pure 19 4 (.int .i64 y1.2.1) kr rfl kr (.head _) (QP_then QP_body) ?_
 refine WA_pure 20 5 (.int .i64 y1.2.2) kr rfl kr (.head _) (QP_then QP_body) ?_
 refine WA_done kr ?_
 refine X_then ?_
 refine W_seq ?_
 refine W_sr (WO_seg 2 [(25, .bool (y1.2.2 != 0))] kr kr ?_)
 refine WO_et rfl (W_cond (y1.2.2 != 0) kr ?_ ?_)
 ·intro hc
  rw [if_pos hc] at hr
  refine W_sr (WO_seg 3 [(28, .pointer (some ⟨bp0, 2, none⟩))] kr kr ?_)
  refine WO_one rfl (One_store (t := 4) (x := (.tmp 28)) (y := (.const (.bool true))) (v := .bool true) (c' := #[.slice a1 (List.length p0.1) c1, .int .i64 p0.2.1, .bool true]) kr (ev (.pointer (some ⟨bp0, 2, none⟩))) (ev (.bool true)) st kr kr ?_)
  clear st
  intro w3 st
  refine WO_et rfl (W_sr ?_)
  refine WO_seg 1 [(2, .string (⟨#[]⟩ : ByteArray))] kr kr ?_
  refine WO_et rfl (W_ret ?_)
  refine X_then_ret ?_
  obtain rfl := Option.some.inj hr
  refine X_ret [.tmp 2] [.string (⟨#[]⟩ : ByteArray)] rfl (ResAll.cons (ResAt.tmp kr) ResAll.nil) ?_
  exact ⟨a1, c1, m1, rfl, hm, st, r1⟩
 ·intro hc
  rw [if_neg (not_true hc)] at hr
  refine W_skip ?_
  refine X_then ?_
  refine W_sr (WO_seg 4 [(30, .int .i64 y1.2.1), (32, .pointer (some ⟨bp0, 1, none⟩))] kr kr ?_)
  refine WO_one rfl (One_store (t := 3) (x := (.tmp 32)) (y := (.tmp 30)) (v := .int .i64 y1.2.1) (c' := #[.slice a1 (List.length p0.1) c1, .int .i64 y1.2.1, .bool p0.2.2]) kr (ev (.pointer (some ⟨bp0, 1, none⟩))) (ev (.int .i64 y1.2.1)) st kr kr ?_)
  clear st
  intro w4 st
  refine WO_et rfl (W_sr ?_)
  refine WO_seg 2 [(2, .string y1.1)] kr kr ?_
  refine WO_et rfl (W_ret ?_)
  obtain rfl := Option.some.inj hr
  refine X_ret [.tmp 2] [.string y1.1] rfl (ResAll.cons (ResAt.tmp kr) ResAll.nil) ?_
  exact ⟨a1, c1, m1, rfl, hm, st, r1⟩
def revision_payload_end (N : Nat) (p0 : List UInt8 × Int × Bool) : Option ((List UInt8 × Int × Bool) × Bool) :=
 (if (!p0.2.2) = true then (some (p0.2.1 == (List.length p0.1 : Int))) else (some false) : Option (Bool)).bind fun o1 => some ((p0.1, p0.2.1, p0.2.2), o1)
set_option maxHeartbeats 4000000 in
set_option maxRecDepth 100000 in
theorem revision_payload_end_ok {N : Nat} {m : Mem} {own : List Piece} {w : World} {p0 : List UInt8 × Int × Bool} {bp0 : Nat} {a1 : Option Addr} {c1 : Nat} {r : (List UInt8 × Int × Bool) × Bool} (st : St m (.blk bp0 (.cells #[.slice a1 (List.length p0.1) c1, .int .i64 p0.2.1, .bool p0.2.2] 72 (0, 0)) :: own) w) (r1 : RepS cU8 m a1 c1 p0.1) (hr : revision_payload_end N p0 = some r) : Calls Tryz.prog 43 #[.pointer (some ⟨bp0, 0, none⟩)] w fun e w' => ∃ (ra1 : Option Addr) (rc1 : Nat) (m' : Mem), e = .returned (.bool r.2) ∧ m.le m' ∧ St m' (.blk bp0 (.cells #[.slice ra1 (List.length r.1.1) rc1, .int .i64 r.1.2.1, .bool r.1.2.2] 72 (0, 0)) :: own) w' ∧ RepS cU8 m' ra1 rc1 r.1.1 := by
 unfold revision_payload_end at hr
 have hm := m.le_refl
 refine W_calls Tryz.func43 rfl Tryz.ntmps43 [(0, .pointer (some ⟨bp0, 0, none⟩))] kr rfl ?_
 refine W_sr (WO_seg 1 [] kr kr ?_)
 refine WO_et rfl (W_seq ?_)
 replace ⟨o1, hr, hrK⟩ := bindS hr
 refine W_cut .normal (fun L' w' => ∃ (m1 : Mem), L' = [(2, .bool o1)] ∧ m.le m1 ∧ St m1 (.blk bp0 (.cells #[.slice a1 (List.length p0.1) c1, .int .i64 p0.2.1, .bool p0.2.2] 72 (0, 0)) :: own) w' ∧ RepS cU8 m1 a1 c1 p0.1) ?_ ?_
 ·clear hr st
  have hr := hrK
  clear hrK
  rintro _ w1 ⟨m1, rfl, hm, st, r1⟩
  refine X_then ?_
  refine W_ret ?_
  obtain rfl := Option.some.inj hr
  refine X_ret [.tmp 2] [.bool o1] rfl (ResAll.cons (ResAt.tmp kr) ResAll.nil) ?_
  exact ⟨a1, c1, m1, rfl, hm, st, r1⟩
 ·intro K
  clear hrK
  refine W_draw [(18, fun w' => Inv m w' ∧ Piece.holds m w' (.blk bp0 (.cells #[.slice a1 (List.length p0.1) c1, .int .i64 p0.2.1, .bool p0.2.2] 72 (0, 0))) ∧ True)] kr st ?_
  clear st
  intro w2 _ st
  have hmS1 := m.le_refl
  refine ⟨⟨.inr ⟨Inv.anti st.inv hmS1, Piece.holds_anti st.head hmS1, trivial⟩, trivial⟩, ?_⟩
  refine WA_pure 0 3 (.pointer (some ⟨bp0, 0, none⟩)) kr rfl kr (.head _) (QP_then QP_body) ?_
  refine WA_pure 1 4 (.pointer (some ⟨bp0, 0, none⟩)) kr rfl kr (.head _) (QP_then QP_body) ?_
  refine WA_pure 2 5 (.pointer (some ⟨bp0, 2, none⟩)) kr rfl kr (.head _) (QP_then QP_body) ?_
  refine WA_load_own (t := 4) (x := (.tmp 5)) 3 6 (.bool p0.2.2) kr rfl kr (.head _) (QP_then QP_body) (fun _ h => h.2.1) (ev (.pointer (some ⟨bp0, 2, none⟩))) kr ?_
  refine WA_pure 4 7 (.bool (!p0.2.2)) kr rfl kr (.head _) (QP_then QP_body) ?_
  refine WA_pure 5 8 (.bool (!p0.2.2)) kr rfl kr (.head _) (QP_then QP_body) ?_
  rcases bcases (!p0.2.2) with hc | hc
  ·rw [if_pos hc] at hr
   refine WA_fact (t := 8) (b := true) (!p0.2.2) kr hc ?_
   refine WA_pure 6 9 (.pointer (some ⟨bp0, 0, none⟩)) kr rfl kr (.head _) (QP_then QP_body) ?_
   refine WA_pure 7 10 (.pointer (some ⟨bp0, 0, none⟩)) kr rfl kr (.head _) (QP_then QP_body) ?_
   refine WA_pure 8 11 (.pointer (some ⟨bp0, 1, none⟩)) kr rfl kr (.head _) (QP_then QP_body) ?_
   refine WA_load_own (t := 3) (x := (.tmp 11)) 9 12 (.int .i64 p0.2.1) kr rfl kr (.head _) (QP_then QP_body) (fun _ h => h.2.1) (ev (.pointer (some ⟨bp0, 1, none⟩))) kr ?_
   refine WA_pure 10 13 (.pointer (some ⟨bp0, 0, none⟩)) kr rfl kr (.head _) (QP_then QP_body) ?_
   refine WA_pure 11 14 (.pointer (some ⟨bp0, 0, none⟩)) kr rfl kr (.head _) (QP_then QP_body) ?_
   refine WA_pure 12 15 (.pointer (some ⟨bp0, 0, none⟩)) kr rfl kr (.head _) (QP_then QP_body) ?_
   refine WA_load_own (t := 23) (x := (.tmp 15)) 13 16 (.slice a1 (List.length p0.1) c1) kr rfl kr (.head _) (QP_then QP_body) (fun _ h => h.2.1) (ev (.pointer (some ⟨bp0, 0, none⟩))) kr ?_
   refine WA_pure 14 17 (.int .i64 (List.length p0.1 : Int)) kr rfl kr (.head _) (QP_then QP_body) ?_
   refine WA_pure 15 18 (.bool (p0.2.1 == (List.length p0.1 : Int))) kr rfl kr (.head _) (QP_then QP_body) ?_
   refine WA_pure 16 19 (.bool (p0.2.1 == (List.length p0.1 : Int))) kr rfl kr (.head _) (QP_then QP_body) ?_
   refine WA_pure 17 2 (.bool (p0.2.1 == (List.length p0.1 : Int))) kr rfl kr (.head _) (QP_then QP_body) ?_
   obtain rfl := Option.some.inj hr
   exact WA_done kr (X_env _ kr (K _ _ ⟨m, rfl, hm, st, r1⟩))
  ·rw [if_neg (not_true hc)] at hr
   refine WA_fact (t := 8) (b := false) (!p0.2.2) kr hc ?_
   refine WA_not 6 9 kr rfl kr (.head _) (QP_then QP_body) ?_
   refine WA_not 7 10 kr rfl kr (.head _) (QP_then QP_body) ?_
   refine WA_not 8 11 kr rfl kr (.head _) (QP_then QP_body) ?_
   refine WA_not 9 12 kr rfl kr (.head _) (QP_then QP_body) ?_
   refine WA_not 10 13 kr rfl kr (.head _) (QP_then QP_body) ?_
   refine WA_not 11 14 kr rfl kr (.head _) (QP_then QP_body) ?_
   refine WA_not 12 15 kr rfl kr (.head _) (QP_then QP_body) ?_
   refine WA_not 13 16 kr rfl kr (.head _) (QP_then QP_body) ?_
   refine WA_not 14 17 kr rfl kr (.head _) (QP_then QP_body) ?_
   refine WA_not 15 18 kr rfl kr (.head _) (QP_then QP_body) ?_
   refine WA_pure 16 19 (.bool false) kr rfl kr (.head _) (QP_then QP_body) ?_
   refine WA_pure 17 2 (.bool false) kr rfl kr (.head _) (QP_then QP_body) ?_
   obtain rfl := Option.some.inj hr
   exact WA_done kr (X_env _ kr (K _ _ ⟨m, rfl, hm, st, r1⟩))
def revision_payload_number (N : Nat) (p0 : List UInt8 × Int × Bool) : Option ((List UInt8 × Int × Bool) × Int) :=
 (wire_Uint N p0.1 p0.2.1).bind fun y1 => if (y1.2.2 != 0) = true then (some ((p0.1, p0.2.1, true), 0)) else (some ((p0.1, y1.2.1, p0.2.2), y1.1))
set_option maxHeartbeats 4000000 in
set_option maxRecDepth 100000 in
theorem revision_payload_number_ok {N : Nat} {m : Mem} {own : List Piece} {w : World} {p0 : List UInt8 × Int × Bool} {bp0 : Nat} {a1 : Option Addr} {c1 : Nat} {r : (List UInt8 × Int × Bool) × Int} (st : St m (.blk bp0 (.cells #[.slice a1 (List.length p0.1) c1, .int .i64 p0.2.1, .bool p0.2.2] 72 (0, 0)) :: own) w) (r1 : RepS cU8 m a1 c1 p0.1) (hr : revision_payload_number N p0 = some r) : Calls Tryz.prog 44 #[.pointer (some ⟨bp0, 0, none⟩)] w fun e w' => ∃ (ra1 : Option Addr) (rc1 : Nat) (m' : Mem), e = .returned (.int .u64 r.2) ∧ m.le m' ∧ St m' (.blk bp0 (.cells #[.slice ra1 (List.length r.1.1) rc1, .int .i64 r.1.2.1, .bool r.1.2.2] 72 (0, 0)) :: own) w' ∧ RepS cU8 m' ra1 rc1 r.1.1 := by
 unfold revision_payload_number at hr
 have hm := m.le_refl
 refine W_calls Tryz.func44 rfl Tryz.ntmps44 [(0, .pointer (some ⟨bp0, 0, none⟩))] kr rfl ?_
 refine W_sr (WO_seg 1 [] kr kr ?_)
 refine WO_et rfl (W_seq ?_)
 refine W_draw [(16, fun w' => Inv m w' ∧ Piece.holds m w' (.blk bp0 (.cells #[.slice a1 (List.length p0.1) c1, .int .i64 p0.2.1, .bool p0.2.2] 72 (0, 0))) ∧ True)] kr st ?_
 clear st
 intro w1 _ st
 have hmS1 := m.le_refl
 refine ⟨⟨.inr ⟨Inv.anti st.inv hmS1, Piece.holds_anti st.head hmS1, trivial⟩, trivial⟩, ?_⟩
 refine WA_pure 0 7 (.pointer (some ⟨bp0, 0, none⟩)) kr rfl kr (.head _) (QP_then QP_body) ?_
 refine WA_pure 1 8 (.pointer (some ⟨bp0, 0, none⟩)) kr rfl kr (.head _) (QP_then QP_body) ?_
 refine WA_pure 2 9 (.pointer (some ⟨bp0, 0, none⟩)) kr rfl kr (.head _) (QP_then QP_body) ?_
 refine WA_load_own (t := 23) (x := (.tmp 9)) 3 10 (.slice a1 (List.length p0.1) c1) kr rfl kr (.head _) (QP_then QP_body) (fun _ h => h.2.1) (ev (.pointer (some ⟨bp0, 0, none⟩))) kr ?_
 refine WA_pure 4 11 (.pointer (some ⟨bp0, 0, none⟩)) kr rfl kr (.head _) (QP_then QP_body) ?_
 refine WA_pure 5 12 (.pointer (some ⟨bp0, 0, none⟩)) kr rfl kr (.head _) (QP_then QP_body) ?_
 refine WA_pure 6 13 (.pointer (some ⟨bp0, 1, none⟩)) kr rfl kr (.head _) (QP_then QP_body) ?_
 refine WA_load_own (t := 3) (x := (.tmp 13)) 7 14 (.int .i64 p0.2.1) kr rfl kr (.head _) (QP_then QP_body) (fun _ h => h.2.1) (ev (.pointer (some ⟨bp0, 1, none⟩))) kr ?_
 replace ⟨y1, hx1, hr⟩ := bindS hr
 refine WA_one 8 kr  (One_fn 15 63 #[.slice a1 (List.length p0.1) c1, .int .i64 p0.2.1] kr rfl ?_)
 refine (wire_Uint_ok st r1 hx1).mono ?_
 clear st
 rintro _ w2 ⟨m1, rfl, hle1, st⟩
 refine ⟨_, rfl, ?_⟩
 have hm := Mem.le_trans hm hle1
 have r1 := r1.mono hle1
 have hmS1 := Mem.le_trans hmS1 hle1
 refine ⟨⟨.inr ⟨Inv.anti st.inv hmS1, Piece.holds_anti st.head hmS1, trivial⟩, trivial⟩, ?_⟩
 refine WA_pure 9 6 (.tuple #[.int .u64 y1.1, .int .i64 y1.2.1, .int .i64 y1.2.2]) kr rfl kr (.head _) (QP_then QP_body) ?_
 refine WA_pure 10 16 (.int .u64 y1.1) kr rfl kr (.head _) (QP_then QP_body) ?_
 refine WA_pure 11 17 (.int .i64 y1.2.1) kr rfl kr (.head _) (QP_then QP_body) ?_
 refine WA_pure 12 18 (.int .i64 y1.2.2) kr rfl kr (.head _) (QP_then QP_body) ?_
 refine WA_pure 13 3 (.int .u64 y1.1) kr rfl kr (.head _) (QP_then QP_body) ?_
 refine WA_pure 14 4 (.int .i64 y1.2.1) kr rfl kr (.head _) (QP_then QP_body) ?_
 refine WA_pure 15 5 (.int .i64 y1.2.2) kr rfl kr (.head _) (QP_then QP_body) ?_
 refine WA_done kr ?_
 refine X_then ?_
 refine W_seq ?_
 refine W_sr (WO_seg 2 [(20, .bool (y1.2.2 != 0))] kr kr ?_)
 refine WO_et rfl (W_cond (y1.2.2 != 0) kr ?_ ?_)
 ·intro hc
  rw [if_pos hc] at hr
  refine W_sr (WO_seg 3 [(23, .pointer (some ⟨bp0, 2, none⟩))] kr kr ?_)
  refine WO_one rfl (One_store (t := 4) (x := (.tmp 23)) (y := (.const (.bool true))) (v := .bool true) (c' := #[.slice a1 (List.length p0.1) c1, .int .i64 p0.2.1, .bool true]) kr (ev (.pointer (some ⟨bp0, 2, none⟩))) (ev (.bool true)) st kr kr ?_)
  clear st
  intro w3 st
  refine WO_et rfl (W_sr ?_)
  refine WO_seg 1 [(2, .int .u64 0)] kr kr ?_
  refine WO_et rfl (W_ret ?_)
  refine X_then_ret ?_
  obtain rfl := Option.some.inj hr
  refine X_ret [.tmp 2] [.int .u64 0] rfl (ResAll.cons (ResAt.tmp kr) ResAll.nil) ?_
  exact ⟨a1, c1, m1, rfl, hm, st, r1⟩
 ·intro hc
  rw [if_neg (not_true hc)] at hr
  refine W_skip ?_
  refine X_then ?_
  refine W_sr (WO_seg 4 [(25, .int .i64 y1.2.1), (27, .pointer (some ⟨bp0, 1, none⟩))] kr kr ?_)
  refine WO_one rfl (One_store (t := 3) (x := (.tmp 27)) (y := (.tmp 25)) (v := .int .i64 y1.2.1) (c' := #[.slice a1 (List.length p0.1) c1, .int .i64 y1.2.1, .bool p0.2.2]) kr (ev (.pointer (some ⟨bp0, 1, none⟩))) (ev (.int .i64 y1.2.1)) st kr kr ?_)
  clear st
  intro w4 st
  refine WO_et rfl (W_sr ?_)
  refine WO_seg 2 [(2, .int .u64 y1.1)] kr kr ?_
  refine WO_et rfl (W_ret ?_)
  obtain rfl := Option.some.inj hr
  refine X_ret [.tmp 2] [.int .u64 y1.1] rfl (ResAll.cons (ResAt.tmp kr) ResAll.nil) ?_
  exact ⟨a1, c1, m1, rfl, hm, st, r1⟩
end Go.Proofs.YtfodebccikifcaaGreatDoor
