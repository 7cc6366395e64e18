/- MADE BY gen.py: plain functions and the proofs that the Go functions compute them. No condition but those of each theorem. -/
import Derived.Test.YtgggihpbhmbjaaaGreatDoorProg
import Derived.Test.YtgggihpbhmbjaaaGreatDoorViewy3
import Derived.Test.YtgggihpbhmbjaaaGreatDoorMapDy3
import Derived.Test.YtgggihpbhmbjaaaGreatDoorLiny3
import Derived.Test.YtgggihpbhmbjaaaGreatDoorTConBy3
namespace Go.Proofs.YtgggihpbhmbjaaaGreatDoor
open Go Go.Dc
def testgateref15_Diff_L1 (N : Nat) (p0 : (List (ByteArray × ByteArray))) (p1 : (List (ByteArray × ByteArray))) (s1 : (List (ByteArray × ByteArray)) × Int) : Option (((List (ByteArray × ByteArray)) × Int) ⊕ (((List (ByteArray × ByteArray))))) :=
 if (decide (s1.2 < (List.length p0 : Int))) = true then (((idx p0 s1.2).bind fun x1 => (testgateref07_Find N p1 x1.1).bind fun y3 => if (!y3.2) = true then ((appendS 32 s1.1 ([(x1.1, x1.2)])).bind fun l1 => some l1) else (some s1.1) : Option ((List (ByteArray × ByteArray)))).bind fun o3 => some (.inl (o3, IntKind.wrap .i64 (s1.2 + 1)))) else (some (.inr s1.1))
def testgateref15_Diff_L3 (N : Nat) (o2 : (List (ByteArray × ByteArray))) (s2 : (List (Int × ByteArray × ByteArray × ByteArray)) × Int × List (Bool)) (x2 : ByteArray × ByteArray) (s3 : Int) : Option ((Int) ⊕ ((Int × ByteArray × ByteArray × List (Bool)))) :=
 if (decide (s3 < (List.length o2 : Int))) = true then ((idx o2 s3).bind fun x3 => ((idx s2.2.2 s3).bind fun x4 => if (!x4) = true then (some (x3.2.toList == x2.2.toList)) else (some false) : Option (Bool)).bind fun o8 => if o8 = true then ((idx s2.2.2 s3).bind fun x5 => some (.inr (4, x3.1, (⟨#[]⟩ : ByteArray), List.set s2.2.2 (Int.toNat s3) true))) else (some (.inl (IntKind.wrap .i64 (s3 + 1))))) else (some (.inr (1, (⟨#[]⟩ : ByteArray), x2.2, s2.2.2)))
def testgateref15_Diff_L2 (N : Nat) (p0 : (List (ByteArray × ByteArray))) (p1 : (List (ByteArray × ByteArray))) (o2 : (List (ByteArray × ByteArray))) (s2 : (List (Int × ByteArray × ByteArray × ByteArray)) × Int × List (Bool)) : Option (((List (Int × ByteArray × ByteArray × ByteArray)) × Int × List (Bool)) ⊕ (((List (Int × ByteArray × ByteArray × ByteArray)) × List (Bool)))) :=
 if (decide (s2.2.1 < (List.length p1 : Int))) = true then (((idx p1 s2.2.1).bind fun x2 => (testgateref07_Find N p0 x2.1).bind fun y4 => if y4.2 = true then ((if (!(y4.1.toList == x2.2.toList)) = true then ((testgateref15_insert N s2.1 (3, x2.1, (⟨#[]⟩ : ByteArray), x2.2)).bind fun y5 => some y5) else (some s2.1) : Option ((List (Int × ByteArray × ByteArray × ByteArray)))).bind fun o6 => some (o6, s2.2.2)) else ((loopM (testgateref15_Diff_L3 N o2 s2 x2) N 0).bind fun o7 => (testgateref15_insert N s2.1 (o7.1, x2.1, o7.2.1, o7.2.2.1)).bind fun y6 => some (y6, o7.2.2.2)) : Option ((List (Int × ByteArray × ByteArray × ByteArray)) × List (Bool))).bind fun o5 => some (.inl (o5.1, IntKind.wrap .i64 (s2.2.1 + 1), o5.2))) else (some (.inr (s2.1, s2.2.2)))
def testgateref15_Diff_L4 (N : Nat) (o2 : (List (ByteArray × ByteArray))) (o4 : (List (Int × ByteArray × ByteArray × ByteArray)) × List (Bool)) (s4 : (List (Int × ByteArray × ByteArray × ByteArray)) × Int) : Option (((List (Int × ByteArray × ByteArray × ByteArray)) × Int) ⊕ (((List (Int × ByteArray × ByteArray × ByteArray))))) :=
 if (decide (s4.2 < (List.length o2 : Int))) = true then (((idx o2 s4.2).bind fun x6 => (idx o4.2 s4.2).bind fun x7 => if (!x7) = true then ((testgateref15_insert N s4.1 (2, x6.1, (⟨#[]⟩ : ByteArray), (⟨#[]⟩ : ByteArray))).bind fun y7 => some y7) else (some s4.1) : Option ((List (Int × ByteArray × ByteArray × ByteArray)))).bind fun o10 => some (.inl (o10, IntKind.wrap .i64 (s4.2 + 1)))) else (some (.inr s4.1))
def testgateref15_Diff (N : Nat) (p0 : (List (ByteArray × ByteArray))) (p1 : (List (ByteArray × ByteArray))) : Option ((List (Int × ByteArray × ByteArray × ByteArray)) × Int) :=
 ((testgateref07_Check N p0).bind fun y1 => if (y1 != 0) = true then (some true) else ((testgateref07_Check N p1).bind fun y2 => some (y2 != 0)) : Option (Bool)).bind fun o1 => if o1 = true then (some (([] : List (Int × ByteArray × ByteArray × ByteArray)), 1)) else ((loopM (testgateref15_Diff_L1 N p0 p1) N (([] : List (ByteArray × ByteArray)), 0)).bind fun o2 => (makeA 1 false (List.length o2 : Int)).bind fun l2 => (loopM (testgateref15_Diff_L2 N p0 p1 o2) N (([] : List (Int × ByteArray × ByteArray × ByteArray)), 0, l2)).bind fun o4 => (loopM (testgateref15_Diff_L4 N o2 o4) N (o4.1, 0)).bind fun o9 => some (o9, 0))
set_option maxHeartbeats 4000000 in
set_option maxRecDepth 100000 in
theorem testgateref15_Diff_ok {N : Nat} {m : Mem} {own : List Piece} {w : World} {p0 : (List (ByteArray × ByteArray))} {p1 : (List (ByteArray × ByteArray))} {a1 : Option Addr} {c1 : Nat} {a2 : Option Addr} {c2 : Nat} {r : (List (Int × ByteArray × ByteArray × ByteArray)) × Int} (st : St m (own) w) (r1 : RepS (cPair cStr cStr) m a1 c1 p0) (r2 : RepS (cPair cStr cStr) m a2 c2 p1) (hr : testgateref15_Diff N p0 p1 = some r) : Calls Tryz.prog 25 #[.agg #[.slice a1 (List.length p0) c1], .agg #[.slice a2 (List.length p1) c2]] w fun e w' => ∃ (ra1 : Option Addr) (rc1 : Nat) (m' : Mem), e = .returned (.tuple #[.slice ra1 (List.length r.1) rc1, .int .i64 r.2]) ∧ m.le m' ∧ St m' (.room ra1 (List.length r.1) rc1 72 4 :: own) w' ∧ RepS (cPair (cInt .i64) (cPair cStr (cPair cStr cStr))) m' ra1 rc1 r.1 := by
 unfold testgateref15_Diff at hr
 have hm := m.le_refl
 refine W_calls Tryz.func25 rfl Tryz.ntmps25 [(0, .agg #[.slice a1 (List.length p0) c1]), (1, .agg #[.slice a2 (List.length p1) c2])] kr rfl ?_
 refine W_sr (WO_one rfl (One_box (d := 2) (e := 25) (x := (.tmp 0)) (.agg #[.slice a1 (List.length p0) c1]) kr rfl kr st ?_))
 clear st
 intro b1 m1 w1 hle1 st hb1
 have hm := Mem.le_trans hm hle1
 have r1 := r1.mono hle1
 have r2 := r2.mono hle1
 refine WO_one rfl (One_box (d := 3) (e := 25) (x := (.tmp 1)) (.agg #[.slice a2 (List.length p1) c2]) kr rfl kr st ?_)
 clear st
 intro b2 m2 w2 hle2 st hb2
 have hm := Mem.le_trans hm hle2
 have r1 := r1.mono hle2
 have r2 := r2.mono hle2
 have hb1 := hb1.mono hle2
 refine WO_seg 2 [] kr kr ?_
 refine WO_et rfl (W_seq ?_)
 refine W_sr ?_
 replace ⟨o1, hr, hrK⟩ := bindS hr
 refine WO_cut (j := 8) (fun L' w' => ∃ (m3 : Mem), L' = [(2, .pointer (some ⟨b1, 0, none⟩)), (3, .pointer (some ⟨b2, 0, none⟩)), (29, .bool o1)] ∧ m.le m3 ∧ St m3 (own) w' ∧ MRow m3 b1 0 [.slice a1 (List.length p0) c1] ∧ RepS (cPair cStr cStr) m3 a1 c1 p0 ∧ MRow m3 b2 0 [.slice a2 (List.length p1) c2] ∧ RepS (cPair cStr cStr) m3 a2 c2 p1) ?_ ?_
 ·clear hr st
  have hr := hrK
  clear hrK
  rintro _ w3 ⟨m3, rfl, hm, st, hb1, r1, hb2, r2⟩
  refine WO_et rfl (W_cond o1 kr ?_ ?_)
  ·intro hc
   rw [if_pos hc] at hr
   refine W_sr (WO_seg 2 [(4, .slice none (List.length ([] : List (Int × ByteArray × ByteArray × ByteArray))) 0), (5, .int .i64 1)] kr kr ?_)
   refine WO_et rfl (W_ret ?_)
   refine X_then_ret ?_
   obtain rfl := Option.some.inj hr
   refine X_ret [.tmp 4, .tmp 5] [.slice none (List.length ([] : List (Int × ByteArray × ByteArray × ByteArray))) 0, .int .i64 1] rfl (ResAll.cons (ResAt.tmp kr) (ResAll.cons (ResAt.tmp kr) ResAll.nil)) ?_
   have st := st.nilroom 72 4
   exact ⟨none, 0, m3, rfl, hm, st, (RepS.nil _ _)⟩
  ·intro hc
   rw [if_neg (not_true hc)] at hr
   refine W_skip ?_
   refine X_then ?_
   refine W_sr (WO_seg 1 [(6, .slice none (List.length ([] : List (ByteArray × ByteArray))) 0)] kr kr ?_)
   refine WO_et rfl (W_seq ?_)
   refine W_sr (WO_seg 1 [(30, .pointer (some ⟨b1, 0, none⟩))] kr kr ?_)
   refine WO_one rfl (One_load_row (d := 31) (t := 23) (x := (.tmp 30)) (.slice a1 (List.length p0) c1) kr rfl (ev (.pointer (some ⟨b1, 0, none⟩))) st hb1 kr ?_)
   refine WO_seg 2 [(32, .int .i64 (List.length p0 : Int)), (33, .int .i64 0)] kr kr ?_
   refine WO_et rfl (W_block ?_)
   replace ⟨out1, hr, hrKu1⟩ := bindS hr
   refine W_cut (.exit 0) (fun L' w' => ∃ (o2 : (List (ByteArray × ByteArray))) (a3 : Option Addr) (c3 : Nat) (m6 : Mem), o2 = out1 ∧ L' = [(2, .pointer (some ⟨b1, 0, none⟩)), (3, .pointer (some ⟨b2, 0, none⟩)), (6, .slice a3 (List.length o2) c3)] ∧ m.le m6 ∧ St m6 (.room a3 (List.length o2) c3 74 2 :: own) w' ∧ MRow m6 b1 0 [.slice a1 (List.length p0) c1] ∧ RepS (cPair cStr cStr) m6 a1 c1 p0 ∧ MRow m6 b2 0 [.slice a2 (List.length p1) c2] ∧ RepS (cPair cStr cStr) m6 a2 c2 p1 ∧ RepS (cPair cStr cStr) m6 a3 c3 o2) ?_ ?_
   ·clear hr st
    rintro _ w6 ⟨o2, a3, c3, m6, rfl, rfl, hm, st, hb1, r1, hb2, r2, r3⟩
    have hr := hrKu1
    clear hrKu1
    refine X_block_eq ?_
    refine X_then ?_
    refine W_sr (WO_seg 2 [(52, .int .i64 (List.length o2 : Int))] kr kr ?_)
    replace ⟨l2, hx6, hr⟩ := bindS hr
    refine WO_one rfl (One_makeArr (d := 53) (t := 132) (e := 4) (by_ := 1) (x := (.tmp 52)) (y := (.tmp 52)) (fun x : Bool => Value.bool x) kr rfl (ev (.int .i64 (List.length o2 : Int))) (ev (.int .i64 (List.length o2 : Int))) kr kr rfl st hx6 ?_)
    clear st
    intro b6 w14 hn1 st
    refine WO_seg 1 [(11, .slice (some ⟨b6, 0, none⟩) (Int.toNat (List.length o2 : Int)) (Int.toNat (List.length o2 : Int)))] kr kr ?_
    refine WO_et rfl (W_sr ?_)
    refine WO_seg 1 [(12, .slice none (List.length ([] : List (Int × ByteArray × ByteArray × ByteArray))) 0)] kr kr ?_
    refine WO_et rfl (W_seq ?_)
    refine W_sr (WO_seg 1 [(54, .pointer (some ⟨b2, 0, none⟩))] kr kr ?_)
    refine WO_one rfl (One_load_row (d := 55) (t := 23) (x := (.tmp 54)) (.slice a2 (List.length p1) c2) kr rfl (ev (.pointer (some ⟨b2, 0, none⟩))) st hb2 kr ?_)
    refine WO_seg 2 [(56, .int .i64 (List.length p1 : Int)), (57, .int .i64 0)] kr kr ?_
    refine WO_et rfl (W_block ?_)
    have st := room_opc (f := (fun x : Int × ByteArray × ByteArray × ByteArray => ([.int .i64 x.1, .string x.2.1, .string x.2.2.1, .string x.2.2.2] : List Value))) (st.nilroom 72 4)
    replace ⟨out2, hr, hrKu3⟩ := bindS hr
    refine W_cut (.exit 2) (fun L' w' => ∃ (o4 : (List (Int × ByteArray × ByteArray × ByteArray)) × List (Bool)) (a7 : Option Addr) (c7 : Nat) (T1 : List Value) (m12 : Mem), o4 = out2 ∧ L' = [(6, .slice a3 (List.length o2) c3), (11, .slice (some ⟨b6, 0, none⟩) (Int.toNat (List.length o2 : Int)) (Int.toNat (List.length o2 : Int))), (12, .slice a7 (List.length o4.1) c7)] ∧ m.le m12 ∧ St m12 (.blk b6 (.cells (acells (fun x : Bool => Value.bool x) o4.2 []) 4 (0, 0)) :: opc a7 (acellsM (fun x : Int × ByteArray × ByteArray × ByteArray => ([.int .i64 x.1, .string x.2.1, .string x.2.2.1, .string x.2.2.2] : List Value)) o4.1 T1) 72 :: .room a3 (List.length o2) c3 74 2 :: own) w' ∧ RepS (cPair cStr cStr) m12 a3 c3 o2 ∧ List.length o4.2 = (Int.toNat (List.length o2 : Int)) ∧ OAS a7 (List.length o4.1) c7 4 T1) ?_ ?_
    ·clear hr st
     rintro _ w15 ⟨o4, a7, c7, T1, m12, rfl, rfl, hm, st, r3, hn2, hs1⟩
     have hr := hrKu3
     clear hrKu3
     refine X_block_eq ?_
     refine X_then ?_
     refine W_seq ?_
     refine W_sr (WO_seg 3 [(117, .slice a3 (List.length o2) c3), (118, .int .i64 (List.length o2 : Int)), (119, .int .i64 0)] kr kr ?_)
     refine WO_et rfl (W_block ?_)
     replace ⟨out4, hr, hrKu8⟩ := bindS hr
     refine W_cut (.exit 6) (fun L' w' => ∃ (o9 : (List (Int × ByteArray × ByteArray × ByteArray))) (a13 : Option Addr) (c13 : Nat) (T7 : List Value) (m22 : Mem), o9 = out4 ∧ L' = [(12, .slice a13 (List.length o9) c13)] ∧ m.le m22 ∧ St m22 (.blk b6 (.cells (acells (fun x : Bool => Value.bool x) o4.2 []) 4 (0, 0)) :: opc a13 (acellsM (fun x : Int × ByteArray × ByteArray × ByteArray => ([.int .i64 x.1, .string x.2.1, .string x.2.2.1, .string x.2.2.2] : List Value)) o9 T7) 72 :: .room a3 (List.length o2) c3 74 2 :: own) w' ∧ List.length o4.2 = (Int.toNat (List.length o2 : Int)) ∧ OAS a13 (List.length o9) c13 4 T7) ?_ ?_
     ·clear hr st
      rintro _ w33 ⟨o9, a13, c13, T7, m22, rfl, rfl, hm, st, hn2, hs7⟩
      have hr := hrKu8
      clear hrKu8
      refine X_block_eq ?_
      refine X_then ?_
      refine W_sr (WO_seg 3 [(4, .slice a13 (List.length o9) c13), (5, .int .i64 0)] kr kr ?_)
      refine WO_end rfl ?_
      have st := st.front2
      have st := st.tail
      refine X_then ?_
      refine W_ret ?_
      obtain rfl := Option.some.inj hr
      have st := st.front1
      obtain ⟨m26, hle12, st, r8⟩ := St.freezeM (c := (cPair (cInt .i64) (cPair cStr (cPair cStr cStr)))) (f := (fun x : Int × ByteArray × ByteArray × ByteArray => ([.int .i64 x.1, .string x.2.1, .string x.2.2.1, .string x.2.2.2] : List Value))) st hs7 rfl (fun _ => rfl) (fun _ x => ⟨_, _, rfl, rfl, ⟨_, _, rfl, rfl, ⟨_, _, rfl, rfl, rfl⟩⟩⟩)
      have hm := Mem.le_trans hm hle12
      refine X_ret [.tmp 4, .tmp 5] [.slice a13 (List.length o9) c13, .int .i64 0] rfl (ResAll.cons (ResAt.tmp kr) (ResAll.cons (ResAt.tmp kr) ResAll.nil)) ?_
      have st := st.front1
      have st := st.tail
      exact ⟨a13, c13, m26, rfl, hm, st, r8⟩
     intro K6_u8
     clear hrKu8
     have st := st.front2.front2.front2
     refine W_env _ kr (W_loop (fun k4 L' w' => ∃ (s4 : (List (Int × ByteArray × ByteArray × ByteArray)) × Int) (a14 : Option Addr) (c14 : Nat) (T8 : List Value) (m23 : Mem), loopM (testgateref15_Diff_L4 N o2 o4) k4 s4 = some out4 ∧ L' = [(11, .slice (some ⟨b6, 0, none⟩) (Int.toNat (List.length o2 : Int)) (Int.toNat (List.length o2 : Int))), (12, .slice a14 (List.length s4.1) c14), (117, .slice a3 (List.length o2) c3), (118, .int .i64 (List.length o2 : Int)), (119, .int .i64 s4.2)] ∧ m.le m23 ∧ St m23 (.blk b6 (.cells (acells (fun x : Bool => Value.bool x) o4.2 []) 4 (0, 0)) :: opc a14 (acellsM (fun x : Int × ByteArray × ByteArray × ByteArray => ([.int .i64 x.1, .string x.2.1, .string x.2.2.1, .string x.2.2.2] : List Value)) s4.1 T8) 72 :: .room a3 (List.length o2) c3 74 2 :: own) w' ∧ RepS (cPair cStr cStr) m23 a3 c3 o2 ∧ List.length o4.2 = (Int.toNat (List.length o2 : Int)) ∧ OAS a14 (List.length s4.1) c14 4 T8) N ⟨(o4.1, 0), a7, c7, T1, m12, hr, rfl, hm, st, r3, hn2, hs1⟩ ?_)
     clear st hr
     rintro k4 _ w34 ⟨s4, a14, c14, T8, m23, hL, rfl, hm, st, r3, hn2, hs8⟩
     rcases k4 with _ | k4
     ·exact loopM_zero hL
     ·obtain ⟨qu8, hr, hSu8, hBu8⟩ := loopM_succ hL
      clear hL
      unfold testgateref15_Diff_L4 at hr
      refine W_sr (WO_seg 1 [(120, .bool (decide (s4.2 < (List.length o2 : Int))))] kr kr ?_)
      refine WO_et rfl (W_seq ?_)
      refine W_cond (decide (s4.2 < (List.length o2 : Int))) kr ?_ ?_
      ·intro hc
       rw [if_pos hc] at hr
       refine W_skip ?_
       refine X_then ?_
       refine W_seq ?_
       replace ⟨o10, hr, hrKu9⟩ := bindS hr
       refine W_cut .normal (fun L' w' => ∃ (a15 : Option Addr) (c15 : Nat) (T9 : List Value) (m24 : Mem), L' = [(11, .slice (some ⟨b6, 0, none⟩) (Int.toNat (List.length o2 : Int)) (Int.toNat (List.length o2 : Int))), (12, .slice a15 (List.length o10) c15), (117, .slice a3 (List.length o2) c3), (118, .int .i64 (List.length o2 : Int)), (119, .int .i64 s4.2)] ∧ m.le m24 ∧ St m24 (.blk b6 (.cells (acells (fun x : Bool => Value.bool x) o4.2 []) 4 (0, 0)) :: opc a15 (acellsM (fun x : Int × ByteArray × ByteArray × ByteArray => ([.int .i64 x.1, .string x.2.1, .string x.2.2.1, .string x.2.2.2] : List Value)) o10 T9) 72 :: .room a3 (List.length o2) c3 74 2 :: own) w' ∧ RepS (cPair cStr cStr) m24 a3 c3 o2 ∧ List.length o4.2 = (Int.toNat (List.length o2 : Int)) ∧ OAS a15 (List.length o10) c15 4 T9) ?_ ?_
       ·clear hr st
        have hr := hrKu9
        clear hrKu9
        rintro _ w35 ⟨a15, c15, T9, m24, rfl, hm, st, r3, hn2, hs9⟩
        refine X_then ?_
        refine W_region ?_
        refine WO_seg 2 [(119, .int .i64 (IntKind.wrap .i64 (s4.2 + 1)))] kr kr ?_
        refine WO_end rfl ?_
        obtain rfl := Option.some.inj hr
        have hL := hSu8 _ rfl
        have st := st.front2.front2.front2
        exact X_env _ kr (X_round k4 (Nat.lt_succ_self _) ⟨(o10, IntKind.wrap .i64 (s4.2 + 1)), a15, c15, T9, m24, hL, rfl, hm, st, r3, hn2, hs9⟩)
       ·intro Ku9
        clear hrKu9
        refine W_block ?_
        refine W_sr (WO_seg 1 [(121, .int .i64 s4.2)] kr kr ?_)
        replace ⟨x6, hx14, hr⟩ := bindS hr
        refine WO_one rfl (One_index (d := 122) (t := 23) (e := 74) (x := (.tmp 117)) (y := (.tmp 119)) (cPair cStr cStr) kr rfl (ev (.slice a3 (List.length o2) c3)) (ev (.int .i64 s4.2)) kr r3 hx14 ?_)
        rintro b12 f4 cs4 ⟨_, _, rfl, rfl, rfl⟩ hq4
        refine WO_one rfl (One_load_row (d := 123) (t := 74) (x := (.tmp 122)) (.agg #[.string x6.1, .string x6.2]) kr rfl (ev (.pointer (some ⟨b12, f4, none⟩))) st hq4 kr ?_)
        refine WO_one rfl (One_alloc (d := 21) (e := 74) (.agg #[.string (⟨#[]⟩ : ByteArray), .string (⟨#[]⟩ : ByteArray)]) kr rfl kr st ?_)
        clear st
        intro b13 w36 st
        refine WO_seg 1 [(20, .int .i64 s4.2)] kr kr ?_
        refine WO_one rfl (One_store (t := 74) (x := (.tmp 21)) (y := (.tmp 123)) (v := .agg #[.string x6.1, .string x6.2]) (c' := #[.string x6.1, .string x6.2]) kr (ev (.pointer (some ⟨b13, 0, none⟩))) (ev (.agg #[.string x6.1, .string x6.2])) st kr kr ?_)
        clear st
        intro w37 st
        refine WO_et rfl (W_sr ?_)
        refine WO_seg 2 [(124, .slice (some ⟨b6, 0, none⟩) (Int.toNat (List.length o2 : Int)) (Int.toNat (List.length o2 : Int))), (125, .int .i64 s4.2)] kr kr ?_
        replace ⟨x7, hx15, hr⟩ := bindS hr
        refine WO_one rfl (One_arrIndex (d := 126) (t := 132) (e := 4) (x := (.tmp 124)) (y := (.tmp 125)) kr rfl (ev (.slice (some ⟨b6, 0, none⟩) (Int.toNat (List.length o2 : Int)) (Int.toNat (List.length o2 : Int)))) (ev (.int .i64 s4.2)) kr hn2 hx15 ?_)
        refine WO_one rfl (One_arrLoad (d := 127) (t := 4) (x := (.tmp 126)) kr rfl (ev (.pointer (some ⟨b6, Int.toNat s4.2, none⟩))) st.tail.head hx15 kr ?_)
        refine WO_seg 1 [(128, .bool (!x7))] kr kr ?_
        refine WO_et rfl (W_cond (!x7) kr ?_ ?_)
        ·intro hc
         rw [if_pos hc] at hr
         refine W_region ?_
         refine WO_seg 2 [(129, .slice a14 (List.length s4.1) c14), (130, .pointer (some ⟨b13, 0, none⟩))] kr kr ?_
         refine WO_one rfl (One_load_own (d := 131) (t := 9) (x := (.tmp 130)) (.string x6.1) kr rfl (ev (.pointer (some ⟨b13, 0, none⟩))) st.head kr ?_)
         refine WO_seg 1 [(132, .agg #[.int .i64 2, .string x6.1, .string (⟨#[]⟩ : ByteArray), .string (⟨#[]⟩ : ByteArray)])] kr kr ?_
         have st := st.front2
         replace ⟨y7, hx16, hr⟩ := bindS hr
         refine WO_one rfl (One_fn 133 83 #[.slice a14 (List.length s4.1) c14, .agg #[.int .i64 2, .string x6.1, .string (⟨#[]⟩ : ByteArray), .string (⟨#[]⟩ : ByteArray)]] kr rfl ?_)
         refine (testgateref15_insert_ok st hs8 hx16).mono ?_
         clear st
         rintro _ w38 ⟨a16, c16, T10, m25, rfl, hle11, st, hs10⟩
         refine ⟨_, rfl, ?_⟩
         have hm := Mem.le_trans hm hle11
         have r3 := r3.mono hle11
         refine WO_seg 1 [(12, .slice a16 (List.length y7) c16)] kr kr ?_
         refine WO_end rfl ?_
         refine X_block ?_
         obtain rfl := Option.some.inj hr
         have st := st.front1
         have st := st.tail
         have st := st.front2.front1.front2
         exact X_env _ kr (Ku9 _ _ ⟨a16, c16, T10, m25, rfl, hm, st, r3, hn2, hs10⟩)
        ·intro hc
         rw [if_neg (not_true hc)] at hr
         refine W_skip ?_
         refine X_block ?_
         obtain rfl := Option.some.inj hr
         have st := st.tail
         have st := st.front2.front2.front2
         exact X_env _ kr (Ku9 _ _ ⟨a14, c14, T8, m23, rfl, hm, st, r3, hn2, hs8⟩)
      ·intro hc
       rw [if_neg (not_true hc)] at hr
       refine W_exit ?_
       refine X_then_exit ?_
       obtain rfl := Option.some.inj hr
       have ho := hBu8 _ rfl
       have st := st.front2.front2.front2
       refine X_then_exit ?_
       exact X_env _ kr (K6_u8 _ _ ⟨s4.1, a14, c14, T8, m23, ho, rfl, hm, st, hn2, hs8⟩)
    intro K2_u3
    clear hrKu3
    have st := st.front2.front1.front2
    refine W_env _ kr (W_loop (fun k2 L' w' => ∃ (s2 : (List (Int × ByteArray × ByteArray × ByteArray)) × Int × List (Bool)) (a8 : Option Addr) (c8 : Nat) (T2 : List Value) (m13 : Mem), loopM (testgateref15_Diff_L2 N p0 p1 o2) k2 s2 = some out2 ∧ L' = [(2, .pointer (some ⟨b1, 0, none⟩)), (6, .slice a3 (List.length o2) c3), (11, .slice (some ⟨b6, 0, none⟩) (Int.toNat (List.length o2 : Int)) (Int.toNat (List.length o2 : Int))), (12, .slice a8 (List.length s2.1) c8), (55, .slice a2 (List.length p1) c2), (56, .int .i64 (List.length p1 : Int)), (57, .int .i64 s2.2.1)] ∧ m.le m13 ∧ St m13 (.blk b6 (.cells (acells (fun x : Bool => Value.bool x) s2.2.2 []) 4 (0, 0)) :: opc a8 (acellsM (fun x : Int × ByteArray × ByteArray × ByteArray => ([.int .i64 x.1, .string x.2.1, .string x.2.2.1, .string x.2.2.2] : List Value)) s2.1 T2) 72 :: .room a3 (List.length o2) c3 74 2 :: own) w' ∧ MRow m13 b1 0 [.slice a1 (List.length p0) c1] ∧ RepS (cPair cStr cStr) m13 a1 c1 p0 ∧ RepS (cPair cStr cStr) m13 a3 c3 o2 ∧ RepS (cPair cStr cStr) m13 a2 c2 p1 ∧ List.length s2.2.2 = (Int.toNat (List.length o2 : Int)) ∧ OAS a8 (List.length s2.1) c8 4 T2) N ⟨(([] : List (Int × ByteArray × ByteArray × ByteArray)), 0, l2), none, 0, [], m6, hr, rfl, hm, st, hb1, r1, r3, r2, hn1, (OAS.nil 4)⟩ ?_)
    clear st hr
    rintro k2 _ w16 ⟨s2, a8, c8, T2, m13, hL, rfl, hm, st, hb1, r1, r3, r2, hn3, hs2⟩
    rcases k2 with _ | k2
    ·exact loopM_zero hL
    ·obtain ⟨qu3, hr, hSu3, hBu3⟩ := loopM_succ hL
     clear hL
     unfold testgateref15_Diff_L2 at hr
     refine W_sr (WO_seg 1 [(58, .bool (decide (s2.2.1 < (List.length p1 : Int))))] kr kr ?_)
     refine WO_et rfl (W_seq ?_)
     refine W_cond (decide (s2.2.1 < (List.length p1 : Int))) kr ?_ ?_
     ·intro hc
      rw [if_pos hc] at hr
      refine W_skip ?_
      refine X_then ?_
      refine W_seq ?_
      replace ⟨o5, hr, hrKu4⟩ := bindS hr
      refine W_cut .normal (fun L' w' => ∃ (a9 : Option Addr) (c9 : Nat) (T3 : List Value) (m14 : Mem), L' = [(2, .pointer (some ⟨b1, 0, none⟩)), (6, .slice a3 (List.length o2) c3), (11, .slice (some ⟨b6, 0, none⟩) (Int.toNat (List.length o2 : Int)) (Int.toNat (List.length o2 : Int))), (12, .slice a9 (List.length o5.1) c9), (55, .slice a2 (List.length p1) c2), (56, .int .i64 (List.length p1 : Int)), (57, .int .i64 s2.2.1)] ∧ m.le m14 ∧ St m14 (.blk b6 (.cells (acells (fun x : Bool => Value.bool x) o5.2 []) 4 (0, 0)) :: opc a9 (acellsM (fun x : Int × ByteArray × ByteArray × ByteArray => ([.int .i64 x.1, .string x.2.1, .string x.2.2.1, .string x.2.2.2] : List Value)) o5.1 T3) 72 :: .room a3 (List.length o2) c3 74 2 :: own) w' ∧ MRow m14 b1 0 [.slice a1 (List.length p0) c1] ∧ RepS (cPair cStr cStr) m14 a1 c1 p0 ∧ RepS (cPair cStr cStr) m14 a3 c3 o2 ∧ RepS (cPair cStr cStr) m14 a2 c2 p1 ∧ List.length o5.2 = (Int.toNat (List.length o2 : Int)) ∧ OAS a9 (List.length o5.1) c9 4 T3) ?_ ?_
      ·clear hr st
       have hr := hrKu4
       clear hrKu4
       rintro _ w17 ⟨a9, c9, T3, m14, rfl, hm, st, hb1, r1, r3, r2, hn4, hs3⟩
       refine X_then ?_
       refine W_region ?_
       refine WO_seg 2 [(57, .int .i64 (IntKind.wrap .i64 (s2.2.1 + 1)))] kr kr ?_
       refine WO_end rfl ?_
       obtain rfl := Option.some.inj hr
       have hL := hSu3 _ rfl
       have st := st.front2.front2.front2
       exact X_env _ kr (X_round k2 (Nat.lt_succ_self _) ⟨(o5.1, IntKind.wrap .i64 (s2.2.1 + 1), o5.2), a9, c9, T3, m14, hL, rfl, hm, st, hb1, r1, r3, r2, hn4, hs3⟩)
      ·intro Ku4
       clear hrKu4
       refine W_block ?_
       refine W_sr ?_
       replace ⟨x2, hx7, hr⟩ := bindS hr
       refine WO_one rfl (One_index (d := 59) (t := 23) (e := 74) (x := (.tmp 55)) (y := (.tmp 57)) (cPair cStr cStr) kr rfl (ev (.slice a2 (List.length p1) c2)) (ev (.int .i64 s2.2.1)) kr r2 hx7 ?_)
       rintro b7 f2 cs2 ⟨_, _, rfl, rfl, rfl⟩ hq2
       refine WO_one rfl (One_load_row (d := 60) (t := 74) (x := (.tmp 59)) (.agg #[.string x2.1, .string x2.2]) kr rfl (ev (.pointer (some ⟨b7, f2, none⟩))) st hq2 kr ?_)
       refine WO_one rfl (One_alloc (d := 14) (e := 74) (.agg #[.string (⟨#[]⟩ : ByteArray), .string (⟨#[]⟩ : ByteArray)]) kr rfl kr st ?_)
       clear st
       intro b8 w18 st
       refine WO_one rfl (One_store (t := 74) (x := (.tmp 14)) (y := (.tmp 60)) (v := .agg #[.string x2.1, .string x2.2]) (c' := #[.string x2.1, .string x2.2]) kr (ev (.pointer (some ⟨b8, 0, none⟩))) (ev (.agg #[.string x2.1, .string x2.2])) st kr kr ?_)
       clear st
       intro w19 st
       refine WO_et rfl (W_sr ?_)
       refine WO_one rfl (One_load_row (d := 62) (t := 25) (x := (.tmp 2)) (.agg #[.slice a1 (List.length p0) c1]) kr rfl (ev (.pointer (some ⟨b1, 0, none⟩))) st hb1 kr ?_)
       refine WO_seg 1 [(63, .pointer (some ⟨b8, 0, none⟩))] kr kr ?_
       refine WO_one rfl (One_load_own (d := 64) (t := 9) (x := (.tmp 63)) (.string x2.1) kr rfl (ev (.pointer (some ⟨b8, 0, none⟩))) st.head kr ?_)
       replace ⟨y4, hx8, hr⟩ := bindS hr
       refine WO_one rfl (One_fn 65 82 #[.agg #[.slice a1 (List.length p0) c1], .string x2.1] kr rfl ?_)
       refine (testgateref07_Find_ok st r1 hx8).mono ?_
       clear st
       rintro _ w20 ⟨m15, rfl, hle8, st⟩
       refine ⟨_, rfl, ?_⟩
       have hm := Mem.le_trans hm hle8
       have hb1 := hb1.mono hle8
       have r1 := r1.mono hle8
       have r3 := r3.mono hle8
       have r2 := r2.mono hle8
       refine WO_seg 5 [(15, .string y4.1), (16, .bool y4.2)] kr kr ?_
       refine WO_et rfl (W_seq ?_)
       refine W_sr (WO_seg 1 [(68, .bool y4.2)] kr kr ?_)
       refine WO_et rfl (W_cond y4.2 kr ?_ ?_)
       ·intro hc
        rw [if_pos hc] at hr
        refine W_seq ?_
        refine W_sr (WO_seg 2 [(69, .string y4.1), (70, .pointer (some ⟨b8, 1, none⟩))] kr kr ?_)
        refine WO_one rfl (One_load_own (d := 71) (t := 9) (x := (.tmp 70)) (.string x2.2) kr rfl (ev (.pointer (some ⟨b8, 1, none⟩))) st.head kr ?_)
        refine WO_seg 1 [(72, .bool (!(y4.1.toList == x2.2.toList)))] kr kr ?_
        refine WO_et rfl ?_
        replace ⟨o6, hr, hrKu5⟩ := bindS hr
        refine W_cut .normal (fun L' w' => ∃ (a10 : Option Addr) (c10 : Nat) (T4 : List Value) (m16 : Mem), L' = [(2, .pointer (some ⟨b1, 0, none⟩)), (6, .slice a3 (List.length o2) c3), (11, .slice (some ⟨b6, 0, none⟩) (Int.toNat (List.length o2 : Int)) (Int.toNat (List.length o2 : Int))), (12, .slice a10 (List.length o6) c10), (55, .slice a2 (List.length p1) c2), (56, .int .i64 (List.length p1 : Int)), (57, .int .i64 s2.2.1)] ∧ m.le m16 ∧ St m16 (.blk b8 (.cells #[.string x2.1, .string x2.2] 74 (0, 0)) :: .blk b6 (.cells (acells (fun x : Bool => Value.bool x) s2.2.2 []) 4 (0, 0)) :: opc a10 (acellsM (fun x : Int × ByteArray × ByteArray × ByteArray => ([.int .i64 x.1, .string x.2.1, .string x.2.2.1, .string x.2.2.2] : List Value)) o6 T4) 72 :: .room a3 (List.length o2) c3 74 2 :: own) w' ∧ MRow m16 b1 0 [.slice a1 (List.length p0) c1] ∧ RepS (cPair cStr cStr) m16 a1 c1 p0 ∧ RepS (cPair cStr cStr) m16 a3 c3 o2 ∧ RepS (cPair cStr cStr) m16 a2 c2 p1 ∧ List.length s2.2.2 = (Int.toNat (List.length o2 : Int)) ∧ OAS a10 (List.length o6) c10 4 T4) ?_ ?_
        ·clear hr st
         have hr := hrKu5
         clear hrKu5
         rintro _ w21 ⟨a10, c10, T4, m16, rfl, hm, st, hb1, r1, r3, r2, hn3, hs4⟩
         refine X_then ?_
         refine W_exit ?_
         refine X_then_exit ?_
         refine X_block_eq ?_
         obtain rfl := Option.some.inj hr
         have st := st.tail
         have st := st.front2.front2.front2
         exact X_env _ kr (Ku4 _ _ ⟨a10, c10, T4, m16, rfl, hm, st, hb1, r1, r3, r2, hn3, hs4⟩)
        ·intro Ku5
         clear hrKu5
         refine W_cond (!(y4.1.toList == x2.2.toList)) kr ?_ ?_
         ·intro hc
          rw [if_pos hc] at hr
          refine W_region ?_
          refine WO_seg 2 [(73, .slice a8 (List.length s2.1) c8), (74, .pointer (some ⟨b8, 0, none⟩))] kr kr ?_
          refine WO_one rfl (One_load_own (d := 75) (t := 9) (x := (.tmp 74)) (.string x2.1) kr rfl (ev (.pointer (some ⟨b8, 0, none⟩))) st.head kr ?_)
          refine WO_seg 1 [(76, .pointer (some ⟨b8, 1, none⟩))] kr kr ?_
          refine WO_one rfl (One_load_own (d := 77) (t := 9) (x := (.tmp 76)) (.string x2.2) kr rfl (ev (.pointer (some ⟨b8, 1, none⟩))) st.head kr ?_)
          refine WO_seg 1 [(78, .agg #[.int .i64 3, .string x2.1, .string (⟨#[]⟩ : ByteArray), .string x2.2])] kr kr ?_
          have st := st.front2
          replace ⟨y5, hx9, hr⟩ := bindS hr
          refine WO_one rfl (One_fn 79 83 #[.slice a8 (List.length s2.1) c8, .agg #[.int .i64 3, .string x2.1, .string (⟨#[]⟩ : ByteArray), .string x2.2]] kr rfl ?_)
          refine (testgateref15_insert_ok st hs2 hx9).mono ?_
          clear st
          rintro _ w22 ⟨a11, c11, T5, m17, rfl, hle9, st, hs5⟩
          refine ⟨_, rfl, ?_⟩
          have hm := Mem.le_trans hm hle9
          have hb1 := hb1.mono hle9
          have r1 := r1.mono hle9
          have r3 := r3.mono hle9
          have r2 := r2.mono hle9
          refine WO_seg 1 [(12, .slice a11 (List.length y5) c11)] kr kr ?_
          refine WO_end rfl ?_
          obtain rfl := Option.some.inj hr
          have st := st.front3.front1.front3.front3
          exact X_env _ kr (Ku5 _ _ ⟨a11, c11, T5, m17, rfl, hm, st, hb1, r1, r3, r2, hn3, hs5⟩)
         ·intro hc
          rw [if_neg (not_true hc)] at hr
          refine W_skip ?_
          obtain rfl := Option.some.inj hr
          have st := st.front3.front3.front3.front3
          exact X_env _ kr (Ku5 _ _ ⟨a8, c8, T2, m15, rfl, hm, st, hb1, r1, r3, r2, hn3, hs2⟩)
       ·intro hc
        rw [if_neg (not_true hc)] at hr
        refine W_skip ?_
        refine X_then ?_
        refine W_sr (WO_seg 1 [(80, .pointer (some ⟨b8, 0, none⟩))] kr kr ?_)
        refine WO_one rfl (One_load_own (d := 81) (t := 9) (x := (.tmp 80)) (.string x2.1) kr rfl (ev (.pointer (some ⟨b8, 0, none⟩))) st.head kr ?_)
        refine WO_seg 1 [(82, .pointer (some ⟨b8, 1, none⟩))] kr kr ?_
        refine WO_one rfl (One_load_own (d := 83) (t := 9) (x := (.tmp 82)) (.string x2.2) kr rfl (ev (.pointer (some ⟨b8, 1, none⟩))) st.head kr ?_)
        refine WO_seg 1 [(84, .agg #[.int .i64 1, .string x2.1, .string (⟨#[]⟩ : ByteArray), .string x2.2])] kr kr ?_
        refine WO_one rfl (One_alloc (d := 17) (e := 72) (.agg #[.int .i64 0, .string (⟨#[]⟩ : ByteArray), .string (⟨#[]⟩ : ByteArray), .string (⟨#[]⟩ : ByteArray)]) kr rfl kr st ?_)
        clear st
        intro b9 w23 st
        refine WO_one rfl (One_store (t := 72) (x := (.tmp 17)) (y := (.tmp 84)) (v := .agg #[.int .i64 1, .string x2.1, .string (⟨#[]⟩ : ByteArray), .string x2.2]) (c' := #[.int .i64 1, .string x2.1, .string (⟨#[]⟩ : ByteArray), .string x2.2]) kr (ev (.pointer (some ⟨b9, 0, none⟩))) (ev (.agg #[.int .i64 1, .string x2.1, .string (⟨#[]⟩ : ByteArray), .string x2.2])) st kr kr ?_)
        clear st
        intro w24 st
        refine WO_et rfl (W_seq ?_)
        refine W_sr (WO_seg 3 [(85, .slice a3 (List.length o2) c3), (86, .int .i64 (List.length o2 : Int)), (87, .int .i64 0)] kr kr ?_)
        refine WO_et rfl (W_block ?_)
        replace ⟨out3, hr, hrKu6⟩ := bindS hr
        refine W_cut (.exit 4) (fun L' w' => ∃ (o7 : Int × ByteArray × ByteArray × List (Bool)) (m18 : Mem), o7 = out3 ∧ L' = [(2, .pointer (some ⟨b1, 0, none⟩)), (6, .slice a3 (List.length o2) c3), (11, .slice (some ⟨b6, 0, none⟩) (Int.toNat (List.length o2 : Int)) (Int.toNat (List.length o2 : Int))), (12, .slice a8 (List.length s2.1) c8), (17, .pointer (some ⟨b9, 0, none⟩)), (55, .slice a2 (List.length p1) c2), (56, .int .i64 (List.length p1 : Int)), (57, .int .i64 s2.2.1)] ∧ m.le m18 ∧ St m18 (.blk b9 (.cells #[.int .i64 o7.1, .string x2.1, .string o7.2.1, .string o7.2.2.1] 72 (0, 0)) :: .blk b8 (.cells #[.string x2.1, .string x2.2] 74 (0, 0)) :: .blk b6 (.cells (acells (fun x : Bool => Value.bool x) o7.2.2.2 []) 4 (0, 0)) :: opc a8 (acellsM (fun x : Int × ByteArray × ByteArray × ByteArray => ([.int .i64 x.1, .string x.2.1, .string x.2.2.1, .string x.2.2.2] : List Value)) s2.1 T2) 72 :: .room a3 (List.length o2) c3 74 2 :: own) w' ∧ MRow m18 b1 0 [.slice a1 (List.length p0) c1] ∧ RepS (cPair cStr cStr) m18 a1 c1 p0 ∧ RepS (cPair cStr cStr) m18 a3 c3 o2 ∧ RepS (cPair cStr cStr) m18 a2 c2 p1 ∧ List.length o7.2.2.2 = (Int.toNat (List.length o2 : Int))) ?_ ?_
        ·clear hr st
         rintro _ w25 ⟨o7, m18, rfl, rfl, hm, st, hb1, r1, r3, r2, hn5⟩
         have hr := hrKu6
         clear hrKu6
         refine X_block_eq ?_
         refine X_then ?_
         refine W_region ?_
         refine WO_seg 1 [(113, .slice a8 (List.length s2.1) c8)] kr kr ?_
         refine WO_one rfl (One_load_own (d := 114) (t := 72) (x := (.tmp 17)) (.agg #[.int .i64 o7.1, .string x2.1, .string o7.2.1, .string o7.2.2.1]) kr rfl (ev (.pointer (some ⟨b9, 0, none⟩))) st.head kr ?_)
         have st := st.front3
         replace ⟨y6, hx13, hr⟩ := bindS hr
         refine WO_one rfl (One_fn 115 83 #[.slice a8 (List.length s2.1) c8, .agg #[.int .i64 o7.1, .string x2.1, .string o7.2.1, .string o7.2.2.1]] kr rfl ?_)
         refine (testgateref15_insert_ok st hs2 hx13).mono ?_
         clear st
         rintro _ w32 ⟨a12, c12, T6, m21, rfl, hle10, st, hs6⟩
         refine ⟨_, rfl, ?_⟩
         have hm := Mem.le_trans hm hle10
         have hb1 := hb1.mono hle10
         have r1 := r1.mono hle10
         have r3 := r3.mono hle10
         have r2 := r2.mono hle10
         refine WO_seg 1 [(12, .slice a12 (List.length y6) c12)] kr kr ?_
         refine WO_end rfl ?_
         refine X_block ?_
         obtain rfl := Option.some.inj hr
         have st := st.front1
         have st := st.tail
         have st := st.front1
         have st := st.tail
         have st := st.front2.front1.front2
         exact X_env _ kr (Ku4 _ _ ⟨a12, c12, T6, m21, rfl, hm, st, hb1, r1, r3, r2, hn5, hs6⟩)
        intro K4_u6
        clear hrKu6
        have st := st.front4.front4.front4.front4.front4
        refine W_env _ kr (W_loop (fun k3 L' w' => ∃ (s3 : Int) (m19 : Mem), loopM (testgateref15_Diff_L3 N o2 s2 x2) k3 s3 = some out3 ∧ L' = [(2, .pointer (some ⟨b1, 0, none⟩)), (6, .slice a3 (List.length o2) c3), (11, .slice (some ⟨b6, 0, none⟩) (Int.toNat (List.length o2 : Int)) (Int.toNat (List.length o2 : Int))), (12, .slice a8 (List.length s2.1) c8), (14, .pointer (some ⟨b8, 0, none⟩)), (17, .pointer (some ⟨b9, 0, none⟩)), (55, .slice a2 (List.length p1) c2), (56, .int .i64 (List.length p1 : Int)), (57, .int .i64 s2.2.1), (85, .slice a3 (List.length o2) c3), (86, .int .i64 (List.length o2 : Int)), (87, .int .i64 s3)] ∧ m.le m19 ∧ St m19 (.blk b9 (.cells #[.int .i64 1, .string x2.1, .string (⟨#[]⟩ : ByteArray), .string x2.2] 72 (0, 0)) :: .blk b8 (.cells #[.string x2.1, .string x2.2] 74 (0, 0)) :: .blk b6 (.cells (acells (fun x : Bool => Value.bool x) s2.2.2 []) 4 (0, 0)) :: opc a8 (acellsM (fun x : Int × ByteArray × ByteArray × ByteArray => ([.int .i64 x.1, .string x.2.1, .string x.2.2.1, .string x.2.2.2] : List Value)) s2.1 T2) 72 :: .room a3 (List.length o2) c3 74 2 :: own) w' ∧ MRow m19 b1 0 [.slice a1 (List.length p0) c1] ∧ RepS (cPair cStr cStr) m19 a1 c1 p0 ∧ RepS (cPair cStr cStr) m19 a3 c3 o2 ∧ RepS (cPair cStr cStr) m19 a2 c2 p1 ∧ List.length s2.2.2 = (Int.toNat (List.length o2 : Int))) N ⟨0, m15, hr, rfl, hm, st, hb1, r1, r3, r2, hn3⟩ ?_)
        clear st hr
        rintro k3 _ w26 ⟨s3, m19, hL, rfl, hm, st, hb1, r1, r3, r2, hn3⟩
        rcases k3 with _ | k3
        ·exact loopM_zero hL
        ·obtain ⟨qu6, hr, hSu6, hBu6⟩ := loopM_succ hL
         clear hL
         unfold testgateref15_Diff_L3 at hr
         refine W_sr (WO_seg 1 [(88, .bool (decide (s3 < (List.length o2 : Int))))] kr kr ?_)
         refine WO_et rfl (W_seq ?_)
         refine W_cond (decide (s3 < (List.length o2 : Int))) kr ?_ ?_
         ·intro hc
          rw [if_pos hc] at hr
          refine W_skip ?_
          refine X_then ?_
          refine W_seq ?_
          refine W_block ?_
          refine W_sr (WO_seg 1 [(89, .int .i64 s3)] kr kr ?_)
          replace ⟨x3, hx10, hr⟩ := bindS hr
          refine WO_one rfl (One_index (d := 90) (t := 23) (e := 74) (x := (.tmp 85)) (y := (.tmp 87)) (cPair cStr cStr) kr rfl (ev (.slice a3 (List.length o2) c3)) (ev (.int .i64 s3)) kr r3 hx10 ?_)
          rintro b10 f3 cs3 ⟨_, _, rfl, rfl, rfl⟩ hq3
          refine WO_one rfl (One_load_row (d := 91) (t := 74) (x := (.tmp 90)) (.agg #[.string x3.1, .string x3.2]) kr rfl (ev (.pointer (some ⟨b10, f3, none⟩))) st hq3 kr ?_)
          refine WO_one rfl (One_alloc (d := 19) (e := 74) (.agg #[.string (⟨#[]⟩ : ByteArray), .string (⟨#[]⟩ : ByteArray)]) kr rfl kr st ?_)
          clear st
          intro b11 w27 st
          refine WO_seg 1 [(18, .int .i64 s3)] kr kr ?_
          refine WO_one rfl (One_store (t := 74) (x := (.tmp 19)) (y := (.tmp 91)) (v := .agg #[.string x3.1, .string x3.2]) (c' := #[.string x3.1, .string x3.2]) kr (ev (.pointer (some ⟨b11, 0, none⟩))) (ev (.agg #[.string x3.1, .string x3.2])) st kr kr ?_)
          clear st
          intro w28 st
          refine WO_et rfl (W_sr ?_)
          replace ⟨o8, hr, hrK⟩ := bindS hr
          refine WO_cut (j := 12) (fun L' w' => ∃ (m20 : Mem), L' = [(2, .pointer (some ⟨b1, 0, none⟩)), (6, .slice a3 (List.length o2) c3), (11, .slice (some ⟨b6, 0, none⟩) (Int.toNat (List.length o2 : Int)) (Int.toNat (List.length o2 : Int))), (12, .slice a8 (List.length s2.1) c8), (14, .pointer (some ⟨b8, 0, none⟩)), (17, .pointer (some ⟨b9, 0, none⟩)), (18, .int .i64 s3), (19, .pointer (some ⟨b11, 0, none⟩)), (55, .slice a2 (List.length p1) c2), (56, .int .i64 (List.length p1 : Int)), (57, .int .i64 s2.2.1), (85, .slice a3 (List.length o2) c3), (86, .int .i64 (List.length o2 : Int)), (87, .int .i64 s3), (103, .bool o8)] ∧ m.le m20 ∧ St m20 (.blk b11 (.cells #[.string x3.1, .string x3.2] 74 (0, 0)) :: .blk b9 (.cells #[.int .i64 1, .string x2.1, .string (⟨#[]⟩ : ByteArray), .string x2.2] 72 (0, 0)) :: .blk b8 (.cells #[.string x2.1, .string x2.2] 74 (0, 0)) :: .blk b6 (.cells (acells (fun x : Bool => Value.bool x) s2.2.2 []) 4 (0, 0)) :: opc a8 (acellsM (fun x : Int × ByteArray × ByteArray × ByteArray => ([.int .i64 x.1, .string x.2.1, .string x.2.2.1, .string x.2.2.2] : List Value)) s2.1 T2) 72 :: .room a3 (List.length o2) c3 74 2 :: own) w' ∧ MRow m20 b1 0 [.slice a1 (List.length p0) c1] ∧ RepS (cPair cStr cStr) m20 a1 c1 p0 ∧ RepS (cPair cStr cStr) m20 a3 c3 o2 ∧ RepS (cPair cStr cStr) m20 a2 c2 p1 ∧ List.length s2.2.2 = (Int.toNat (List.length o2 : Int))) ?_ ?_
          ·clear hr st
           have hr := hrK
           clear hrK
           rintro _ w29 ⟨m20, rfl, hm, st, hb1, r1, r3, r2, hn3⟩
           refine WO_et rfl (W_cond o8 kr ?_ ?_)
           ·intro hc
            rw [if_pos hc] at hr
            refine W_sr (WO_seg 2 [(104, .slice (some ⟨b6, 0, none⟩) (Int.toNat (List.length o2 : Int)) (Int.toNat (List.length o2 : Int))), (105, .int .i64 s3)] kr kr ?_)
            replace ⟨x5, hx12, hr⟩ := bindS hr
            refine WO_one rfl (One_arrIndex (d := 106) (t := 132) (e := 4) (x := (.tmp 104)) (y := (.tmp 105)) kr rfl (ev (.slice (some ⟨b6, 0, none⟩) (Int.toNat (List.length o2 : Int)) (Int.toNat (List.length o2 : Int)))) (ev (.int .i64 s3)) kr hn3 hx12 ?_)
            have st := st.front3
            refine WO_one rfl (One_arrStore (f := (fun x : Bool => Value.bool x)) (u := true) (t := 4) (x := (.tmp 106)) (y := (.const (.bool true))) kr (ev (.pointer (some ⟨b6, Int.toNat s3, none⟩))) (ev (.bool true)) st hx12 rfl kr ?_)
            clear st
            intro w30 st
            have hn6 : List.length (List.set s2.2.2 (Int.toNat s3) true) = (Int.toNat (List.length o2 : Int)) := set_len hn3 _ _
            refine WO_et rfl (W_sr ?_)
            refine WO_seg 1 [(107, .pointer (some ⟨b8, 0, none⟩))] kr kr ?_
            refine WO_one rfl (One_load_own (d := 108) (t := 9) (x := (.tmp 107)) (.string x2.1) kr rfl (ev (.pointer (some ⟨b8, 0, none⟩))) st.tail.tail.tail.head kr ?_)
            refine WO_seg 1 [(109, .pointer (some ⟨b11, 0, none⟩))] kr kr ?_
            refine WO_one rfl (One_load_own (d := 110) (t := 9) (x := (.tmp 109)) (.string x3.1) kr rfl (ev (.pointer (some ⟨b11, 0, none⟩))) st.tail.head kr ?_)
            refine WO_seg 1 [(111, .agg #[.int .i64 4, .string x2.1, .string x3.1, .string (⟨#[]⟩ : ByteArray)])] kr kr ?_
            have st := st.front2
            refine WO_one rfl (One_store (t := 72) (x := (.tmp 17)) (y := (.tmp 111)) (v := .agg #[.int .i64 4, .string x2.1, .string x3.1, .string (⟨#[]⟩ : ByteArray)]) (c' := #[.int .i64 4, .string x2.1, .string x3.1, .string (⟨#[]⟩ : ByteArray)]) kr (ev (.pointer (some ⟨b9, 0, none⟩))) (ev (.agg #[.int .i64 4, .string x2.1, .string x3.1, .string (⟨#[]⟩ : ByteArray)])) st kr kr ?_)
            clear st
            intro w31 st
            refine WO_et rfl (W_exit ?_)
            refine X_block_ne rfl ?_
            refine X_then_exit ?_
            obtain rfl := Option.some.inj hr
            have ho := hBu6 _ rfl
            have st := st.front2
            have st := st.tail
            have st := st.front4.front4.front3.front4.front4
            refine X_then_exit ?_
            exact X_env _ kr (K4_u6 _ _ ⟨(4, x3.1, (⟨#[]⟩ : ByteArray), List.set s2.2.2 (Int.toNat s3) true), m20, ho, rfl, hm, st, hb1, r1, r3, r2, hn6⟩)
           ·intro hc
            rw [if_neg (not_true hc)] at hr
            refine W_skip ?_
            refine X_block ?_
            refine X_then ?_
            refine W_region ?_
            refine WO_seg 2 [(87, .int .i64 (IntKind.wrap .i64 (s3 + 1)))] kr kr ?_
            refine WO_end rfl ?_
            obtain rfl := Option.some.inj hr
            have hL := hSu6 _ rfl
            have st := st.tail
            have st := st.front4.front4.front4.front4.front4
            exact X_env _ kr (X_round k3 (Nat.lt_succ_self _) ⟨IntKind.wrap .i64 (s3 + 1), m20, hL, rfl, hm, st, hb1, r1, r3, r2, hn3⟩)
          ·intro K
           clear hrK
           refine WO_seg 2 [(92, .slice (some ⟨b6, 0, none⟩) (Int.toNat (List.length o2 : Int)) (Int.toNat (List.length o2 : Int))), (93, .int .i64 s3)] kr kr ?_
           replace ⟨x4, hx11, hr⟩ := bindS hr
           refine WO_one rfl (One_arrIndex (d := 94) (t := 132) (e := 4) (x := (.tmp 92)) (y := (.tmp 93)) kr rfl (ev (.slice (some ⟨b6, 0, none⟩) (Int.toNat (List.length o2 : Int)) (Int.toNat (List.length o2 : Int)))) (ev (.int .i64 s3)) kr hn3 hx11 ?_)
           refine WO_one rfl (One_arrLoad (d := 95) (t := 4) (x := (.tmp 94)) kr rfl (ev (.pointer (some ⟨b6, Int.toNat s3, none⟩))) st.tail.tail.tail.head hx11 kr ?_)
           refine WO_seg 2 [(97, .bool (!x4))] kr kr ?_
           rcases bcases (!x4) with hc | hc
           ·rw [if_pos hc] at hr
            refine WO_fact (t := 97) (b := true) (!x4) kr hc ?_
            refine WO_seg 1 [(98, .pointer (some ⟨b11, 1, none⟩))] kr kr ?_
            refine WO_one rfl (One_load_own (d := 99) (t := 9) (x := (.tmp 98)) (.string x3.2) kr rfl (ev (.pointer (some ⟨b11, 1, none⟩))) st.head kr ?_)
            refine WO_seg 1 [(100, .pointer (some ⟨b8, 1, none⟩))] kr kr ?_
            refine WO_one rfl (One_load_own (d := 101) (t := 9) (x := (.tmp 100)) (.string x2.2) kr rfl (ev (.pointer (some ⟨b8, 1, none⟩))) st.tail.tail.head kr ?_)
            refine WO_seg 2 [(103, .bool (x3.2.toList == x2.2.toList))] kr kr ?_
            obtain rfl := Option.some.inj hr
            have st := st.front5.front5.front5.front5.front5.front5
            exact WO_env _ kr (K _ _ ⟨m19, rfl, hm, st, hb1, r1, r3, r2, hn3⟩)
           ·rw [if_neg (not_true hc)] at hr
            refine WO_fact (t := 97) (b := false) (!x4) kr hc ?_
            refine WO_seg 6 [(103, .bool false)] kr kr ?_
            obtain rfl := Option.some.inj hr
            have st := st.front5.front5.front5.front5.front5.front5
            exact WO_env _ kr (K _ _ ⟨m19, rfl, hm, st, hb1, r1, r3, r2, hn3⟩)
         ·intro hc
          rw [if_neg (not_true hc)] at hr
          refine W_exit ?_
          refine X_then_exit ?_
          obtain rfl := Option.some.inj hr
          have ho := hBu6 _ rfl
          have st := st.front4.front4.front4.front4.front4
          refine X_then_exit ?_
          exact X_env _ kr (K4_u6 _ _ ⟨(1, (⟨#[]⟩ : ByteArray), x2.2, s2.2.2), m19, ho, rfl, hm, st, hb1, r1, r3, r2, hn3⟩)
     ·intro hc
      rw [if_neg (not_true hc)] at hr
      refine W_exit ?_
      refine X_then_exit ?_
      obtain rfl := Option.some.inj hr
      have ho := hBu3 _ rfl
      have st := st.front2.front2.front2
      refine X_then_exit ?_
      exact X_env _ kr (K2_u3 _ _ ⟨(s2.1, s2.2.2), a8, c8, T2, m13, ho, rfl, hm, st, r3, hn3, hs2⟩)
   intro K0_u1
   clear hrKu1
   have st := st.nilroom 74 2
   refine W_env _ kr (W_loop (fun k1 L' w' => ∃ (s1 : (List (ByteArray × ByteArray)) × Int) (a4 : Option Addr) (c4 : Nat) (m7 : Mem), loopM (testgateref15_Diff_L1 N p0 p1) k1 s1 = some out1 ∧ L' = [(2, .pointer (some ⟨b1, 0, none⟩)), (3, .pointer (some ⟨b2, 0, none⟩)), (6, .slice a4 (List.length s1.1) c4), (31, .slice a1 (List.length p0) c1), (32, .int .i64 (List.length p0 : Int)), (33, .int .i64 s1.2)] ∧ m.le m7 ∧ St m7 (.room a4 (List.length s1.1) c4 74 2 :: own) w' ∧ MRow m7 b1 0 [.slice a1 (List.length p0) c1] ∧ RepS (cPair cStr cStr) m7 a1 c1 p0 ∧ MRow m7 b2 0 [.slice a2 (List.length p1) c2] ∧ RepS (cPair cStr cStr) m7 a2 c2 p1 ∧ RepS (cPair cStr cStr) m7 a4 c4 s1.1) N ⟨(([] : List (ByteArray × ByteArray)), 0), none, 0, m3, hr, rfl, hm, st, hb1, r1, hb2, r2, (RepS.nil _ _)⟩ ?_)
   clear st hr
   rintro k1 _ w7 ⟨s1, a4, c4, m7, hL, rfl, hm, st, hb1, r1, hb2, r2, r4⟩
   rcases k1 with _ | k1
   ·exact loopM_zero hL
   ·obtain ⟨qu1, hr, hSu1, hBu1⟩ := loopM_succ hL
    clear hL
    unfold testgateref15_Diff_L1 at hr
    refine W_sr (WO_seg 1 [(34, .bool (decide (s1.2 < (List.length p0 : Int))))] kr kr ?_)
    refine WO_et rfl (W_seq ?_)
    refine W_cond (decide (s1.2 < (List.length p0 : Int))) kr ?_ ?_
    ·intro hc
     rw [if_pos hc] at hr
     refine W_skip ?_
     refine X_then ?_
     refine W_seq ?_
     replace ⟨o3, hr, hrKu2⟩ := bindS hr
     refine W_cut .normal (fun L' w' => ∃ (a5 : Option Addr) (c5 : Nat) (m8 : Mem), L' = [(2, .pointer (some ⟨b1, 0, none⟩)), (3, .pointer (some ⟨b2, 0, none⟩)), (6, .slice a5 (List.length o3) c5), (31, .slice a1 (List.length p0) c1), (32, .int .i64 (List.length p0 : Int)), (33, .int .i64 s1.2)] ∧ m.le m8 ∧ St m8 (.room a5 (List.length o3) c5 74 2 :: own) w' ∧ MRow m8 b1 0 [.slice a1 (List.length p0) c1] ∧ RepS (cPair cStr cStr) m8 a1 c1 p0 ∧ MRow m8 b2 0 [.slice a2 (List.length p1) c2] ∧ RepS (cPair cStr cStr) m8 a2 c2 p1 ∧ RepS (cPair cStr cStr) m8 a5 c5 o3) ?_ ?_
     ·clear hr st
      have hr := hrKu2
      clear hrKu2
      rintro _ w8 ⟨a5, c5, m8, rfl, hm, st, hb1, r1, hb2, r2, r5⟩
      refine X_then ?_
      refine W_region ?_
      refine WO_seg 2 [(33, .int .i64 (IntKind.wrap .i64 (s1.2 + 1)))] kr kr ?_
      refine WO_end rfl ?_
      obtain rfl := Option.some.inj hr
      have hL := hSu1 _ rfl
      exact X_env _ kr (X_round k1 (Nat.lt_succ_self _) ⟨(o3, IntKind.wrap .i64 (s1.2 + 1)), a5, c5, m8, hL, rfl, hm, st, hb1, r1, hb2, r2, r5⟩)
     ·intro Ku2
      clear hrKu2
      refine W_block ?_
      refine W_sr ?_
      replace ⟨x1, hx3, hr⟩ := bindS hr
      refine WO_one rfl (One_index (d := 35) (t := 23) (e := 74) (x := (.tmp 31)) (y := (.tmp 33)) (cPair cStr cStr) kr rfl (ev (.slice a1 (List.length p0) c1)) (ev (.int .i64 s1.2)) kr r1 hx3 ?_)
      rintro b3 f1 cs1 ⟨_, _, rfl, rfl, rfl⟩ hq1
      refine WO_one rfl (One_load_row (d := 36) (t := 74) (x := (.tmp 35)) (.agg #[.string x1.1, .string x1.2]) kr rfl (ev (.pointer (some ⟨b3, f1, none⟩))) st hq1 kr ?_)
      refine WO_one rfl (One_alloc (d := 8) (e := 74) (.agg #[.string (⟨#[]⟩ : ByteArray), .string (⟨#[]⟩ : ByteArray)]) kr rfl kr st ?_)
      clear st
      intro b4 w9 st
      refine WO_one rfl (One_store (t := 74) (x := (.tmp 8)) (y := (.tmp 36)) (v := .agg #[.string x1.1, .string x1.2]) (c' := #[.string x1.1, .string x1.2]) kr (ev (.pointer (some ⟨b4, 0, none⟩))) (ev (.agg #[.string x1.1, .string x1.2])) st kr kr ?_)
      clear st
      intro w10 st
      refine WO_et rfl (W_sr ?_)
      refine WO_one rfl (One_load_row (d := 38) (t := 25) (x := (.tmp 3)) (.agg #[.slice a2 (List.length p1) c2]) kr rfl (ev (.pointer (some ⟨b2, 0, none⟩))) st hb2 kr ?_)
      refine WO_seg 1 [(39, .pointer (some ⟨b4, 0, none⟩))] kr kr ?_
      refine WO_one rfl (One_load_own (d := 40) (t := 9) (x := (.tmp 39)) (.string x1.1) kr rfl (ev (.pointer (some ⟨b4, 0, none⟩))) st.head kr ?_)
      replace ⟨y3, hx4, hr⟩ := bindS hr
      refine WO_one rfl (One_fn 41 82 #[.agg #[.slice a2 (List.length p1) c2], .string x1.1] kr rfl ?_)
      refine (testgateref07_Find_ok st r2 hx4).mono ?_
      clear st
      rintro _ w11 ⟨m9, rfl, hle5, st⟩
      refine ⟨_, rfl, ?_⟩
      have hm := Mem.le_trans hm hle5
      have hb1 := hb1.mono hle5
      have r1 := r1.mono hle5
      have hb2 := hb2.mono hle5
      have r2 := r2.mono hle5
      have r4 := r4.mono hle5
      refine WO_seg 5 [(10, .bool y3.2)] kr kr ?_
      refine WO_et rfl (W_sr ?_)
      refine WO_seg 2 [(45, .bool (!y3.2))] kr kr ?_
      refine WO_et rfl (W_cond (!y3.2) kr ?_ ?_)
      ·intro hc
       rw [if_pos hc] at hr
       refine W_region ?_
       refine WO_seg 1 [(46, .slice a4 (List.length s1.1) c4)] kr kr ?_
       refine WO_one rfl (One_load_own (d := 47) (t := 74) (x := (.tmp 8)) (.agg #[.string x1.1, .string x1.2]) kr rfl (ev (.pointer (some ⟨b4, 0, none⟩))) st.head kr ?_)
       refine WO_one rfl (One_buildSlice (d := 48) (t := 23) (e := 74) (len := 1) (parts := #[(0, (.tmp 47))]) (cPair cStr cStr) (xs := [(x1.1, x1.2)]) [.string x1.1, .string x1.2] kr rfl (fun _ => buildCells_run kr _) rfl rfl st ⟨[.string x1.1, .string x1.2], _, rfl, ⟨_, _, rfl, rfl, rfl⟩, rfl⟩ ?_)
       clear st
       intro b5 m10 w12 hle6 st r6
       have hm := Mem.le_trans hm hle6
       have hb1 := hb1.mono hle6
       have r1 := r1.mono hle6
       have hb2 := hb2.mono hle6
       have r2 := r2.mono hle6
       have r4 := r4.mono hle6
       have st := st.front2
       replace ⟨l1, hx5, hr⟩ := bindS hr
       refine WO_one rfl (One_append (d := 49) (t := 23) (u := 23) (e := 74) (by_ := 32) (x := (.tmp 46)) (y := (.tmp 48)) (cPair cStr cStr) kr rfl (ev (.slice a4 (List.length s1.1) c4)) (ev (.slice (some ⟨b5, 0, none⟩) (List.length ([(x1.1, x1.2)])) 1)) st kr (.inl kr) r4 r6.src hx5 ?_)
       clear st
       intro a6 c6 m11 w13 hle7 st r7
       have hm := Mem.le_trans hm hle7
       have hb1 := hb1.mono hle7
       have r1 := r1.mono hle7
       have hb2 := hb2.mono hle7
       have r2 := r2.mono hle7
       have r4 := r4.mono hle7
       have r6 := r6.mono hle7
       refine WO_seg 1 [(6, .slice a6 (List.length l1) c6)] kr kr ?_
       refine WO_end rfl ?_
       have st := st.front1
       have st := st.tail
       refine X_block ?_
       obtain rfl := Option.some.inj hr
       have st := st.front1
       have st := st.tail
       exact X_env _ kr (Ku2 _ _ ⟨a6, c6, m11, rfl, hm, st, hb1, r1, hb2, r2, r7⟩)
      ·intro hc
       rw [if_neg (not_true hc)] at hr
       refine W_skip ?_
       refine X_block ?_
       obtain rfl := Option.some.inj hr
       have st := st.tail
       exact X_env _ kr (Ku2 _ _ ⟨a4, c4, m9, rfl, hm, st, hb1, r1, hb2, r2, r4⟩)
    ·intro hc
     rw [if_neg (not_true hc)] at hr
     refine W_exit ?_
     refine X_then_exit ?_
     obtain rfl := Option.some.inj hr
     have ho := hBu1 _ rfl
     refine X_then_exit ?_
     exact X_env _ kr (K0_u1 _ _ ⟨s1.1, a4, c4, m7, ho, rfl, hm, st, hb1, r1, hb2, r2, r4⟩)
 ·intro K
  clear hrK
  refine WO_one rfl (One_load_row (d := 22) (t := 25) (x := (.tmp 2)) (.agg #[.slice a1 (List.length p0) c1]) kr rfl (ev (.pointer (some ⟨b1, 0, none⟩))) st hb1 kr ?_)
  replace ⟨y1, hx1, hr⟩ := bindS hr
  refine WO_one rfl (One_fn 23 66 #[.agg #[.slice a1 (List.length p0) c1]] kr rfl ?_)
  refine (testgateref07_Check_ok st r1 hx1).mono ?_
  clear st
  rintro _ w4 ⟨m4, rfl, hle3, st⟩
  refine ⟨_, rfl, ?_⟩
  have hm := Mem.le_trans hm hle3
  have hb1 := hb1.mono hle3
  have r1 := r1.mono hle3
  have hb2 := hb2.mono hle3
  have r2 := r2.mono hle3
  refine WO_seg 2 [(25, .bool (y1 != 0))] kr kr ?_
  rcases bcases (y1 != 0) with hc | hc
  ·rw [if_pos hc] at hr
   refine WO_fact (t := 25) (b := true) (y1 != 0) kr hc ?_
   refine WO_seg 4 [(29, .bool true)] kr kr ?_
   obtain rfl := Option.some.inj hr
   exact WO_env _ kr (K _ _ ⟨m4, rfl, hm, st, hb1, r1, hb2, r2⟩)
  ·rw [if_neg (not_true hc)] at hr
   refine WO_fact (t := 25) (b := false) (y1 != 0) kr hc ?_
   refine WO_one rfl (One_load_row (d := 26) (t := 25) (x := (.tmp 3)) (.agg #[.slice a2 (List.length p1) c2]) kr rfl (ev (.pointer (some ⟨b2, 0, none⟩))) st hb2 kr ?_)
   replace ⟨y2, hx2, hr⟩ := bindS hr
   refine WO_one rfl (One_fn 27 66 #[.agg #[.slice a2 (List.length p1) c2]] kr rfl ?_)
   refine (testgateref07_Check_ok st r2 hx2).mono ?_
   clear st
   rintro _ w5 ⟨m5, rfl, hle4, st⟩
   refine ⟨_, rfl, ?_⟩
   have hm := Mem.le_trans hm hle4
   have hb1 := hb1.mono hle4
   have r1 := r1.mono hle4
   have hb2 := hb2.mono hle4
   have r2 := r2.mono hle4
   refine WO_seg 2 [(29, .bool (y2 != 0))] kr kr ?_
   obtain rfl := Option.some.inj hr
   exact WO_env _ kr (K _ _ ⟨m5, rfl, hm, st, hb1, r1, hb2, r2⟩)
def testgatelaw15_changes_L1 (N : Nat) (s1 : (List (Int × ByteArray × ByteArray × ByteArray)) × Int × List (Int) × Int) : Option (((List (Int × ByteArray × ByteArray × ByteArray)) × Int × List (Int) × Int) ⊕ (((List (Int × ByteArray × ByteArray × ByteArray)) × List (Int) × Int))) :=
 if (decide (s1.2.1 > 0)) = true then ((testgatemake_Tape_Pick N (s1.2.2.1, s1.2.2.2) ([1, 2, 3, 4, 0])).bind fun y3 => (testgatemake_Tape_One N (y3.1.1, y3.1.2) ([(⟨#[97, 46, 115, 114, 99]⟩ : ByteArray), (⟨#[98, 46, 115, 114, 99]⟩ : ByteArray), (⟨#[99]⟩ : ByteArray), (⟨#[110, 101, 119]⟩ : ByteArray), (⟨#[97, 46, 100, 97, 116]⟩ : ByteArray), (⟨#[65]⟩ : ByteArray)])).bind fun y4 => (testgatemake_Tape_One N (y4.1.1, y4.1.2) ([(⟨#[]⟩ : ByteArray), (⟨#[]⟩ : ByteArray), (⟨#[97, 46, 115, 114, 99]⟩ : ByteArray), (⟨#[99]⟩ : ByteArray)])).bind fun y5 => (testgatemake_Tape_One N (y5.1.1, y5.1.2) ([(⟨#[]⟩ : ByteArray), (⟨#[]⟩ : ByteArray), (⟨#[120]⟩ : ByteArray)])).bind fun y6 => (appendS 56 s1.1 ([(y3.2, y4.2, y5.2, y6.2)])).bind fun l2 => some (.inl (l2, IntKind.wrap .i64 (s1.2.1 - 1), y6.1.1, y6.1.2))) else (some (.inr (s1.1, s1.2.2.1, s1.2.2.2)))
def testgatelaw15_changes (N : Nat) (p0 : List Int × Int) (p1 : (List (ByteArray × ByteArray))) (p2 : (List (ByteArray × ByteArray))) : Option ((List Int × Int) × (List (Int × ByteArray × ByteArray × ByteArray))) :=
 (testgateref15_Diff N p1 p2).bind fun y1 => (appM 56 y1.1).bind fun l1 => (testgatemake_Tape_Next N (p0.1, p0.2) 3).bind fun y2 => (loopM (testgatelaw15_changes_L1 N) N (l1, y2.2, y2.1.1, y2.1.2)).bind fun o1 => (if (decide (((List.length o1.1) : Int) > 1)) = true then ((testgatemake_Tape_Next N (o1.2.1, o1.2.2) ((List.length o1.1) : Int)).bind fun y7 => (testgatemake_Tape_Next N (y7.1.1, y7.1.2) ((List.length o1.1) : Int)).bind fun y8 => (idx o1.1 y8.2).bind fun x1 => (idx o1.1 y7.2).bind fun x2 => (idx o1.1 y7.2).bind fun x3 => (idx (List.set o1.1 (Int.toNat y7.2) (x1.1, x1.2.1, x1.2.2.1, x1.2.2.2)) y8.2).bind fun x4 => some (y8.1.1, y8.1.2, List.set (List.set o1.1 (Int.toNat y7.2) (x1.1, x1.2.1, x1.2.2.1, x1.2.2.2)) (Int.toNat y8.2) (x2.1, x2.2.1, x2.2.2.1, x2.2.2.2))) else (some (o1.2.1, o1.2.2, o1.1)) : Option (List (Int) × Int × (List (Int × ByteArray × ByteArray × ByteArray)))).bind fun o2 => some ((o2.1, o2.2.1), o2.2.2)
set_option maxHeartbeats 4000000 in
set_option maxRecDepth 100000 in
theorem testgatelaw15_changes_ok {N : Nat} {m : Mem} {own : List Piece} {w : World} {p0 : List Int × Int} {p1 : (List (ByteArray × ByteArray))} {p2 : (List (ByteArray × ByteArray))} {bp0 : Nat} {a1 : Option Addr} {c1 : Nat} {a2 : Option Addr} {c2 : Nat} {a3 : Option Addr} {c3 : Nat} {r : (List Int × Int) × (List (Int × ByteArray × ByteArray × ByteArray))} (st : St m (.blk bp0 (.cells #[.slice a1 (List.length p0.1) c1, .int .i64 p0.2] 28 (0, 0)) :: own) w) (r1 : RepS (cInt .i64) m a1 c1 p0.1) (r2 : RepS (cPair cStr cStr) m a2 c2 p1) (r3 : RepS (cPair cStr cStr) m a3 c3 p2) (hr : testgatelaw15_changes N p0 p1 p2 = some r) : Calls Tryz.prog 28 #[.pointer (some ⟨bp0, 0, none⟩), .agg #[.slice a2 (List.length p1) c2], .agg #[.slice a3 (List.length p2) c3]] w fun e w' => ∃ (ra1 : Option Addr) (rc1 : Nat) (ra2 : Option Addr) (rc2 : Nat) (m' : Mem), e = .returned (.slice ra2 (List.length r.2) rc2) ∧ m.le m' ∧ St m' (.room ra2 (List.length r.2) rc2 72 4 :: .blk bp0 (.cells #[.slice ra1 (List.length r.1.1) rc1, .int .i64 r.1.2] 28 (0, 0)) :: own) w' ∧ RepS (cInt .i64) m' ra1 rc1 r.1.1 ∧ RepS (cPair (cInt .i64) (cPair cStr (cPair cStr cStr))) m' ra2 rc2 r.2 := by
 unfold testgatelaw15_changes at hr
 have hm := m.le_refl
 refine W_calls Tryz.func28 rfl Tryz.ntmps28 [(0, .pointer (some ⟨bp0, 0, none⟩)), (1, .agg #[.slice a2 (List.length p1) c2]), (2, .agg #[.slice a3 (List.length p2) c3])] kr rfl ?_
 refine W_sr (WO_one rfl (One_box (d := 4) (e := 25) (x := (.tmp 1)) (.agg #[.slice a2 (List.length p1) c2]) kr rfl kr st ?_))
 clear st
 intro b1 m1 w1 hle1 st hb1
 have hm := Mem.le_trans hm hle1
 have r2 := r2.mono hle1
 have r3 := r3.mono hle1
 have r1 := r1.mono hle1
 refine WO_one rfl (One_box (d := 5) (e := 25) (x := (.tmp 2)) (.agg #[.slice a3 (List.length p2) c3]) kr rfl kr st ?_)
 clear st
 intro b2 m2 w2 hle2 st hb2
 have hm := Mem.le_trans hm hle2
 have r2 := r2.mono hle2
 have r3 := r3.mono hle2
 have hb1 := hb1.mono hle2
 have r1 := r1.mono hle2
 refine WO_seg 1 [] kr kr ?_
 refine WO_et rfl (W_sr ?_)
 refine WO_one rfl (One_load_row (d := 13) (t := 25) (x := (.tmp 4)) (.agg #[.slice a2 (List.length p1) c2]) kr rfl (ev (.pointer (some ⟨b1, 0, none⟩))) st hb1 kr ?_)
 refine WO_one rfl (One_load_row (d := 14) (t := 25) (x := (.tmp 5)) (.agg #[.slice a3 (List.length p2) c3]) kr rfl (ev (.pointer (some ⟨b2, 0, none⟩))) st hb2 kr ?_)
 replace ⟨y1, hx1, hr⟩ := bindS hr
 refine WO_one rfl (One_fn 15 25 #[.agg #[.slice a2 (List.length p1) c2], .agg #[.slice a3 (List.length p2) c3]] kr rfl ?_)
 refine (testgateref15_Diff_ok st r2 r3 hx1).mono ?_
 clear st
 rintro _ w3 ⟨a4, c4, m3, rfl, hle3, st, r4⟩
 refine ⟨_, rfl, ?_⟩
 have hm := Mem.le_trans hm hle3
 have hb1 := hb1.mono hle3
 have r2 := r2.mono hle3
 have hb2 := hb2.mono hle3
 have r3 := r3.mono hle3
 have r1 := r1.mono hle3
 refine WO_seg 5 [(7, .slice a4 (List.length y1.1) c4)] kr kr ?_
 refine WO_et rfl (W_sr ?_)
 refine WO_seg 1 [(18, .slice a4 (List.length y1.1) c4)] kr kr ?_
 have st := st.nilroom 72 4
 replace ⟨l1, hx2, hr⟩ := bindS hr
 refine WO_one rfl (One_appM (d := 19) (t := 58) (u := 58) (e := 72) (by_ := 56) (x := (.const (.slice none 0 0))) (y := (.tmp 18)) (c := (cPair (cInt .i64) (cPair cStr (cPair cStr cStr)))) (f := (fun x : Int × ByteArray × ByteArray × ByteArray => ([.int .i64 x.1, .string x.2.1, .string x.2.2.1, .string x.2.2.2] : List Value))) (a := none) (fun _ _ _ h => by obtain ⟨_, _, rfl, rfl, ⟨_, _, rfl, rfl, ⟨_, _, rfl, rfl, rfl⟩⟩⟩ := h; rfl) (fun _ => rfl) kr rfl (ev (.slice none (List.length ([] : List (Int × ByteArray × ByteArray × ByteArray))) 0)) (ev (.slice a4 (List.length y1.1) c4)) st kr (.inl kr) r4.src hx2 ?_)
 clear st
 intro a5 c5 T1 w4 hs1 st
 refine WO_seg 1 [(7, .slice a5 (List.length l1) c5)] kr kr ?_
 refine WO_end rfl ?_
 have st := st.front1
 have st := st.tail
 refine X_then ?_
 refine W_seq ?_
 refine W_sr (WO_seg 1 [(20, .pointer (some ⟨bp0, 0, none⟩))] kr kr ?_)
 have st := st.front1
 replace ⟨y2, hx3, hr⟩ := bindS hr
 refine WO_one rfl (One_fn 21 14 #[.pointer (some ⟨bp0, 0, none⟩), .int .i64 3] kr rfl ?_)
 refine (testgatemake_Tape_Next_ok st r1 hx3).mono ?_
 clear st
 rintro _ w5 ⟨a6, c6, m4, rfl, hle4, st, r5⟩
 refine ⟨_, rfl, ?_⟩
 have hm := Mem.le_trans hm hle4
 have r1 := r1.mono hle4
 refine WO_seg 1 [(9, .int .i64 y2.2)] kr kr ?_
 refine WO_et rfl (W_block ?_)
 replace ⟨out1, hr, hrKu1⟩ := bindS hr
 refine W_cut (.exit 0) (fun L' w' => ∃ (o1 : (List (Int × ByteArray × ByteArray × ByteArray)) × List (Int) × Int) (a7 : Option Addr) (c7 : Nat) (T2 : List Value) (a8 : Option Addr) (c8 : Nat) (m5 : Mem), o1 = out1 ∧ L' = [(0, .pointer (some ⟨bp0, 0, none⟩)), (7, .slice a7 (List.length o1.1) c7)] ∧ m.le m5 ∧ St m5 (.blk bp0 (.cells #[.slice a8 (List.length o1.2.1) c8, .int .i64 o1.2.2] 28 (0, 0)) :: opc a7 (acellsM (fun x : Int × ByteArray × ByteArray × ByteArray => ([.int .i64 x.1, .string x.2.1, .string x.2.2.1, .string x.2.2.2] : List Value)) o1.1 T2) 72 :: own) w' ∧ RepS (cInt .i64) m5 a8 c8 o1.2.1 ∧ OAS a7 (List.length o1.1) c7 4 T2) ?_ ?_
 ·clear hr st
  rintro _ w6 ⟨o1, a7, c7, T2, a8, c8, m5, rfl, rfl, hm, st, r6, hs2⟩
  have hr := hrKu1
  clear hrKu1
  refine X_block_eq ?_
  refine X_then ?_
  refine W_seq ?_
  refine W_sr (WO_seg 3 [(44, .bool (decide (((List.length o1.1) : Int) > 1)))] kr kr ?_)
  refine WO_et rfl ?_
  replace ⟨o2, hr, hrKu2⟩ := bindS hr
  refine W_cut .normal (fun L' w' => ∃ (a16 : Option Addr) (c16 : Nat) (m16 : Mem), L' = [(7, .slice a7 (List.length o1.1) c7)] ∧ m.le m16 ∧ St m16 (.blk bp0 (.cells #[.slice a16 (List.length o2.1) c16, .int .i64 o2.2.1] 28 (0, 0)) :: opc a7 (acellsM (fun x : Int × ByteArray × ByteArray × ByteArray => ([.int .i64 x.1, .string x.2.1, .string x.2.2.1, .string x.2.2.2] : List Value)) o2.2.2 T2) 72 :: own) w' ∧ RepS (cInt .i64) m16 a16 c16 o2.1 ∧ List.length o2.2.2 = (List.length o1.1)) ?_ ?_
  ·clear hr st
   have hr := hrKu2
   clear hrKu2
   rintro _ w18 ⟨a16, c16, m16, rfl, hm, st, r17, hn1⟩
   refine X_then ?_
   refine W_sr (WO_seg 2 [(6, .slice a7 (List.length o1.1) c7)] kr kr ?_)
   refine WO_et rfl (W_ret ?_)
   obtain rfl := Option.some.inj hr
   have st := st.front1
   obtain ⟨m19, hle16, st, r20⟩ := St.freezeM (c := (cPair (cInt .i64) (cPair cStr (cPair cStr cStr)))) (f := (fun x : Int × ByteArray × ByteArray × ByteArray => ([.int .i64 x.1, .string x.2.1, .string x.2.2.1, .string x.2.2.2] : List Value))) st hs2 hn1 (fun _ => rfl) (fun _ x => ⟨_, _, rfl, rfl, ⟨_, _, rfl, rfl, ⟨_, _, rfl, rfl, rfl⟩⟩⟩)
   have hm := Mem.le_trans hm hle16
   have r17 := r17.mono hle16
   refine X_env [(6, .slice a7 (List.length o2.2.2) c7)] (by (try simp only [hn1]); kernel_rfl) ?_
   refine X_ret [.tmp 6] [.slice a7 (List.length o2.2.2) c7] rfl (ResAll.cons (ResAt.tmp kr) ResAll.nil) ?_
   have st := st.front1.front1
   exact ⟨a16, c16, a7, c7, m19, rfl, hm, st, r17, r20⟩
  ·intro Ku2
   clear hrKu2
   refine W_cond (decide (((List.length o1.1) : Int) > 1)) kr ?_ ?_
   ·intro hc
    rw [if_pos hc] at hr
    refine W_sr (WO_seg 3 [(45, .pointer (some ⟨bp0, 0, none⟩)), (47, .int .i64 ((List.length o1.1) : Int))] kr kr ?_)
    replace ⟨y7, hx9, hr⟩ := bindS hr
    refine WO_one rfl (One_fn 48 14 #[.pointer (some ⟨bp0, 0, none⟩), .int .i64 ((List.length o1.1) : Int)] kr rfl ?_)
    refine (testgatemake_Tape_Next_ok st r6 hx9).mono ?_
    clear st
    rintro _ w19 ⟨a17, c17, m17, rfl, hle14, st, r18⟩
    refine ⟨_, rfl, ?_⟩
    have hm := Mem.le_trans hm hle14
    have r6 := r6.mono hle14
    refine WO_seg 3 [(49, .pointer (some ⟨bp0, 0, none⟩)), (51, .int .i64 ((List.length o1.1) : Int))] kr kr ?_
    replace ⟨y8, hx10, hr⟩ := bindS hr
    refine WO_one rfl (One_fn 52 14 #[.pointer (some ⟨bp0, 0, none⟩), .int .i64 ((List.length o1.1) : Int)] kr rfl ?_)
    refine (testgatemake_Tape_Next_ok st r18 hx10).mono ?_
    clear st
    rintro _ w20 ⟨a18, c18, m18, rfl, hle15, st, r19⟩
    refine ⟨_, rfl, ?_⟩
    have hm := Mem.le_trans hm hle15
    have r18 := r18.mono hle15
    refine WO_seg 2 [(10, .int .i64 y7.2), (11, .int .i64 y8.2)] kr kr ?_
    refine WO_et rfl (W_draw [(16, fun w' => Inv m18 w' ∧ True), (13, fun w' => Inv m18 w' ∧ Piece.holds m18 w' (opc a7 (acellsM (fun x : Int × ByteArray × ByteArray × ByteArray => ([.int .i64 x.1, .string x.2.1, .string x.2.2.1, .string x.2.2.2] : List Value)) o1.1 T2) 72) ∧ True)] kr st ?_)
    clear st
    intro w21 _ st
    have hmS1 := m18.le_refl
    refine ⟨⟨.inr ⟨Inv.anti st.inv hmS1, trivial⟩, ⟨.inr ⟨Inv.anti st.inv hmS1, opc_anti st.tail.head hmS1, trivial⟩, trivial⟩⟩, ?_⟩
    refine WA_pure 0 53 (.slice a7 (List.length o1.1) c7) kr rfl kr (.head _) (QP_then QP_body) ?_
    refine WA_pure 1 54 (.int .i64 y7.2) kr rfl kr (.head _) (QP_then QP_body) ?_
    refine WA_pure 2 55 (.slice a7 (List.length o1.1) c7) kr rfl kr (.head _) (QP_then QP_body) ?_
    refine WA_pure 3 56 (.int .i64 y8.2) kr rfl kr (.head _) (QP_then QP_body) ?_
    refine WA_pure 4 57 (.slice a7 (List.length o1.1) c7) kr rfl kr (.head _) (QP_then QP_body) ?_
    refine WA_pure 5 58 (.int .i64 y8.2) kr rfl kr (.head _) (QP_then QP_body) ?_
    replace ⟨x1, hx11, hr⟩ := bindS hr
    refine WA_arrIndexM (t := 58) (e := 72) (x := (.tmp 57)) (y := (.tmp 58)) (k := 4) 6 59 kr rfl kr (.head _) (QP_then QP_body) (ev (.slice a7 (List.length o1.1) c7)) (ev (.int .i64 y8.2)) kr hs2 rfl hx11 ?_
    refine WA_arrLoadM (t := 72) (x := (.tmp 59)) (o := 0) (f := (fun x : Int × ByteArray × ByteArray × ByteArray => ([.int .i64 x.1, .string x.2.1, .string x.2.2.1, .string x.2.2.2] : List Value))) (z := x1) (v := .agg #[.int .i64 x1.1, .string x1.2.1, .string x1.2.2.1, .string x1.2.2.2]) 7 60 (fun _ => rfl) (Int.toNat y8.2 * 4) rfl kr rfl kr (.tail _ (.head _)) (QP_then QP_body) (fun _ h => h.2.1) (ev (.pointer (some ⟨ab a7, Int.toNat y8.2 * 4, none⟩))) hs2 rfl hx11 kr ?_
    refine WA_pure 8 61 (.slice a7 (List.length o1.1) c7) kr rfl kr (.head _) (QP_then QP_body) ?_
    refine WA_pure 9 62 (.int .i64 y7.2) kr rfl kr (.head _) (QP_then QP_body) ?_
    replace ⟨x2, hx12, hr⟩ := bindS hr
    refine WA_arrIndexM (t := 58) (e := 72) (x := (.tmp 61)) (y := (.tmp 62)) (k := 4) 10 63 kr rfl kr (.head _) (QP_then QP_body) (ev (.slice a7 (List.length o1.1) c7)) (ev (.int .i64 y7.2)) kr hs2 rfl hx12 ?_
    refine WA_arrLoadM (t := 72) (x := (.tmp 63)) (o := 0) (f := (fun x : Int × ByteArray × ByteArray × ByteArray => ([.int .i64 x.1, .string x.2.1, .string x.2.2.1, .string x.2.2.2] : List Value))) (z := x2) (v := .agg #[.int .i64 x2.1, .string x2.2.1, .string x2.2.2.1, .string x2.2.2.2]) 11 64 (fun _ => rfl) (Int.toNat y7.2 * 4) rfl kr rfl kr (.tail _ (.head _)) (QP_then QP_body) (fun _ h => h.2.1) (ev (.pointer (some ⟨ab a7, Int.toNat y7.2 * 4, none⟩))) hs2 rfl hx12 kr ?_
    replace ⟨x3, hx13, hr⟩ := bindS hr
    refine WA_arrIndexM (t := 58) (e := 72) (x := (.tmp 53)) (y := (.tmp 54)) (k := 4) 12 65 kr rfl kr (.head _) (QP_then QP_body) (ev (.slice a7 (List.length o1.1) c7)) (ev (.int .i64 y7.2)) kr hs2 rfl hx13 ?_
    have st := st.front1
    refine WA_one 13 kr  (One_arrStoreM (t := 72) (x := (.tmp 65)) (y := (.tmp 60)) (o := 0) (f := (fun x : Int × ByteArray × ByteArray × ByteArray => ([.int .i64 x.1, .string x.2.1, .string x.2.2.1, .string x.2.2.2] : List Value))) (z := x3) (u := (x1.1, x1.2.1, x1.2.2.1, x1.2.2.2)) (v := .agg #[.int .i64 x1.1, .string x1.2.1, .string x1.2.2.1, .string x1.2.2.2]) (fun _ => rfl) (Int.toNat y7.2 * 4) rfl kr (ev (.pointer (some ⟨ab a7, Int.toNat y7.2 * 4, none⟩))) (ev (.agg #[.int .i64 x1.1, .string x1.2.1, .string x1.2.2.1, .string x1.2.2.2])) st hs2 rfl hx13 kr rfl ?_)
    clear st
    intro w22 st
    have hn2 : List.length (List.set o1.1 (Int.toNat y7.2) (x1.1, x1.2.1, x1.2.2.1, x1.2.2.2)) = (List.length o1.1) := set_len rfl _ _
    refine ⟨⟨.inr ⟨Inv.anti st.inv hmS1, trivial⟩, ⟨.inl rfl, trivial⟩⟩, ?_⟩
    replace ⟨x4, hx14, hr⟩ := bindS hr
    refine WA_arrIndexM (t := 58) (e := 72) (x := (.tmp 55)) (y := (.tmp 56)) (k := 4) 14 66 kr rfl kr (.head _) (QP_then QP_body) (ev (.slice a7 (List.length o1.1) c7)) (ev (.int .i64 y8.2)) kr hs2 hn2 hx14 ?_
    refine WA_one 15 kr  (One_arrStoreM (t := 72) (x := (.tmp 66)) (y := (.tmp 64)) (o := 0) (f := (fun x : Int × ByteArray × ByteArray × ByteArray => ([.int .i64 x.1, .string x.2.1, .string x.2.2.1, .string x.2.2.2] : List Value))) (z := x4) (u := (x2.1, x2.2.1, x2.2.2.1, x2.2.2.2)) (v := .agg #[.int .i64 x2.1, .string x2.2.1, .string x2.2.2.1, .string x2.2.2.2]) (fun _ => rfl) (Int.toNat y8.2 * 4) rfl kr (ev (.pointer (some ⟨ab a7, Int.toNat y8.2 * 4, none⟩))) (ev (.agg #[.int .i64 x2.1, .string x2.2.1, .string x2.2.2.1, .string x2.2.2.2])) st hs2 hn2 hx14 kr rfl ?_)
    clear st
    intro w23 st
    have hn3 : List.length (List.set (List.set o1.1 (Int.toNat y7.2) (x1.1, x1.2.1, x1.2.2.1, x1.2.2.2)) (Int.toNat y8.2) (x2.1, x2.2.1, x2.2.2.1, x2.2.2.2)) = (List.length o1.1) := set_len hn2 _ _
    refine ⟨⟨.inr ⟨Inv.anti st.inv hmS1, trivial⟩, ⟨.inl rfl, trivial⟩⟩, ?_⟩
    refine WA_done kr ?_
    obtain rfl := Option.some.inj hr
    have st := st.front1
    exact X_env _ kr (Ku2 _ _ ⟨a18, c18, m18, rfl, hm, st, r19, hn3⟩)
   ·intro hc
    rw [if_neg (not_true hc)] at hr
    refine W_skip ?_
    obtain rfl := Option.some.inj hr
    have st := st.front1.front1
    exact X_env _ kr (Ku2 _ _ ⟨a8, c8, m5, rfl, hm, st, r6, rfl⟩)
 intro K0_u1
 clear hrKu1
 have st := st.front1.front1
 refine W_env _ kr (W_loop (fun k1 L' w' => ∃ (s1 : (List (Int × ByteArray × ByteArray × ByteArray)) × Int × List (Int) × Int) (a9 : Option Addr) (c9 : Nat) (T3 : List Value) (a10 : Option Addr) (c10 : Nat) (m6 : Mem), loopM (testgatelaw15_changes_L1 N) k1 s1 = some out1 ∧ L' = [(0, .pointer (some ⟨bp0, 0, none⟩)), (7, .slice a9 (List.length s1.1) c9), (9, .int .i64 s1.2.1)] ∧ m.le m6 ∧ St m6 (.blk bp0 (.cells #[.slice a10 (List.length s1.2.2.1) c10, .int .i64 s1.2.2.2] 28 (0, 0)) :: opc a9 (acellsM (fun x : Int × ByteArray × ByteArray × ByteArray => ([.int .i64 x.1, .string x.2.1, .string x.2.2.1, .string x.2.2.2] : List Value)) s1.1 T3) 72 :: own) w' ∧ RepS (cInt .i64) m6 a10 c10 s1.2.2.1 ∧ OAS a9 (List.length s1.1) c9 4 T3) N ⟨(l1, y2.2, y2.1.1, y2.1.2), a5, c5, T1, a6, c6, m4, hr, rfl, hm, st, r5, hs1⟩ ?_)
 clear st hr
 rintro k1 _ w7 ⟨s1, a9, c9, T3, a10, c10, m6, hL, rfl, hm, st, r7, hs3⟩
 rcases k1 with _ | k1
 ·exact loopM_zero hL
 ·obtain ⟨qu1, hr, hSu1, hBu1⟩ := loopM_succ hL
  clear hL
  unfold testgatelaw15_changes_L1 at hr
  refine W_seq ?_
  refine W_sr (WO_seg 2 [(23, .bool (decide (s1.2.1 > 0)))] kr kr ?_)
  refine WO_et rfl (W_cond (decide (s1.2.1 > 0)) kr ?_ ?_)
  ·intro hc
   rw [if_pos hc] at hr
   refine W_skip ?_
   refine X_then ?_
   refine W_seq ?_
   refine W_block ?_
   refine W_region ?_
   refine WO_seg 2 [(26, .slice a9 (List.length s1.1) c9), (27, .pointer (some ⟨bp0, 0, none⟩))] kr kr ?_
   refine WO_one rfl (One_buildSlice (d := 28) (t := 22) (e := 3) (len := 5) (parts := #[(0, (.const (.int .i64 1))), (1, (.const (.int .i64 2))), (2, (.const (.int .i64 3))), (3, (.const (.int .i64 4))), (4, (.const (.int .i64 0)))]) (cInt .i64) (xs := [1, 2, 3, 4, 0]) [.int .i64 1, .int .i64 2, .int .i64 3, .int .i64 4, .int .i64 0] kr rfl (fun _ => buildCells_run kr _) rfl rfl st ⟨[.int .i64 1], _, rfl, rfl, ⟨[.int .i64 2], _, rfl, rfl, ⟨[.int .i64 3], _, rfl, rfl, ⟨[.int .i64 4], _, rfl, rfl, ⟨[.int .i64 0], _, rfl, rfl, rfl⟩⟩⟩⟩⟩ ?_)
   clear st
   intro b3 m7 w8 hle5 st r8
   have hm := Mem.le_trans hm hle5
   have r7 := r7.mono hle5
   have st := st.front1
   replace ⟨y3, hx4, hr⟩ := bindS hr
   refine WO_one rfl (One_fn 29 40 #[.pointer (some ⟨bp0, 0, none⟩), .slice (some ⟨b3, 0, none⟩) (List.length ([1, 2, 3, 4, 0])) 5] kr rfl ?_)
   refine (testgatemake_Tape_Pick_ok st r7 r8 hx4).mono ?_
   clear st
   rintro _ w9 ⟨a11, c11, m8, rfl, hle6, st, r9⟩
   refine ⟨_, rfl, ?_⟩
   have hm := Mem.le_trans hm hle6
   have r8 := r8.mono hle6
   have r7 := r7.mono hle6
   refine WO_seg 1 [(30, .pointer (some ⟨bp0, 0, none⟩))] kr kr ?_
   refine WO_one rfl (One_buildSlice (d := 31) (t := 33) (e := 9) (len := 6) (parts := #[(0, (.const (.string (⟨#[97, 46, 115, 114, 99]⟩ : ByteArray)))), (1, (.const (.string (⟨#[98, 46, 115, 114, 99]⟩ : ByteArray)))), (2, (.const (.string (⟨#[99]⟩ : ByteArray)))), (3, (.const (.string (⟨#[110, 101, 119]⟩ : ByteArray)))), (4, (.const (.string (⟨#[97, 46, 100, 97, 116]⟩ : ByteArray)))), (5, (.const (.string (⟨#[65]⟩ : ByteArray))))]) cStr (xs := [(⟨#[97, 46, 115, 114, 99]⟩ : ByteArray), (⟨#[98, 46, 115, 114, 99]⟩ : ByteArray), (⟨#[99]⟩ : ByteArray), (⟨#[110, 101, 119]⟩ : ByteArray), (⟨#[97, 46, 100, 97, 116]⟩ : ByteArray), (⟨#[65]⟩ : ByteArray)]) [.string (⟨#[97, 46, 115, 114, 99]⟩ : ByteArray), .string (⟨#[98, 46, 115, 114, 99]⟩ : ByteArray), .string (⟨#[99]⟩ : ByteArray), .string (⟨#[110, 101, 119]⟩ : ByteArray), .string (⟨#[97, 46, 100, 97, 116]⟩ : ByteArray), .string (⟨#[65]⟩ : ByteArray)] kr rfl (fun _ => buildCells_run kr _) rfl rfl st ⟨[.string (⟨#[97, 46, 115, 114, 99]⟩ : ByteArray)], _, rfl, rfl, ⟨[.string (⟨#[98, 46, 115, 114, 99]⟩ : ByteArray)], _, rfl, rfl, ⟨[.string (⟨#[99]⟩ : ByteArray)], _, rfl, rfl, ⟨[.string (⟨#[110, 101, 119]⟩ : ByteArray)], _, rfl, rfl, ⟨[.string (⟨#[97, 46, 100, 97, 116]⟩ : ByteArray)], _, rfl, rfl, ⟨[.string (⟨#[65]⟩ : ByteArray)], _, rfl, rfl, rfl⟩⟩⟩⟩⟩⟩ ?_)
   clear st
   intro b4 m9 w10 hle7 st r10
   have hm := Mem.le_trans hm hle7
   have r8 := r8.mono hle7
   have r9 := r9.mono hle7
   have st := st.front1
   replace ⟨y4, hx5, hr⟩ := bindS hr
   refine WO_one rfl (One_fn 32 13 #[.pointer (some ⟨bp0, 0, none⟩), .slice (some ⟨b4, 0, none⟩) (List.length ([(⟨#[97, 46, 115, 114, 99]⟩ : ByteArray), (⟨#[98, 46, 115, 114, 99]⟩ : ByteArray), (⟨#[99]⟩ : ByteArray), (⟨#[110, 101, 119]⟩ : ByteArray), (⟨#[97, 46, 100, 97, 116]⟩ : ByteArray), (⟨#[65]⟩ : ByteArray)])) 6] kr rfl ?_)
   refine (testgatemake_Tape_One_ok st r9 r10 hx5).mono ?_
   clear st
   rintro _ w11 ⟨a12, c12, m10, rfl, hle8, st, r11⟩
   refine ⟨_, rfl, ?_⟩
   have hm := Mem.le_trans hm hle8
   have r8 := r8.mono hle8
   have r10 := r10.mono hle8
   have r9 := r9.mono hle8
   refine WO_seg 1 [(33, .pointer (some ⟨bp0, 0, none⟩))] kr kr ?_
   refine WO_one rfl (One_buildSlice (d := 34) (t := 33) (e := 9) (len := 4) (parts := #[(0, (.const (.string (⟨#[]⟩ : ByteArray)))), (1, (.const (.string (⟨#[]⟩ : ByteArray)))), (2, (.const (.string (⟨#[97, 46, 115, 114, 99]⟩ : ByteArray)))), (3, (.const (.string (⟨#[99]⟩ : ByteArray))))]) cStr (xs := [(⟨#[]⟩ : ByteArray), (⟨#[]⟩ : ByteArray), (⟨#[97, 46, 115, 114, 99]⟩ : ByteArray), (⟨#[99]⟩ : ByteArray)]) [.string (⟨#[]⟩ : ByteArray), .string (⟨#[]⟩ : ByteArray), .string (⟨#[97, 46, 115, 114, 99]⟩ : ByteArray), .string (⟨#[99]⟩ : ByteArray)] kr rfl (fun _ => buildCells_run kr _) rfl rfl st ⟨[.string (⟨#[]⟩ : ByteArray)], _, rfl, rfl, ⟨[.string (⟨#[]⟩ : ByteArray)], _, rfl, rfl, ⟨[.string (⟨#[97, 46, 115, 114, 99]⟩ : ByteArray)], _, rfl, rfl, ⟨[.string (⟨#[99]⟩ : ByteArray)], _, rfl, rfl, rfl⟩⟩⟩⟩ ?_)
   clear st
   intro b5 m11 w12 hle9 st r12
   have hm := Mem.le_trans hm hle9
   have r8 := r8.mono hle9
   have r10 := r10.mono hle9
   have r11 := r11.mono hle9
   have st := st.front1
   replace ⟨y5, hx6, hr⟩ := bindS hr
   refine WO_one rfl (One_fn 35 13 #[.pointer (some ⟨bp0, 0, none⟩), .slice (some ⟨b5, 0, none⟩) (List.length ([(⟨#[]⟩ : ByteArray), (⟨#[]⟩ : ByteArray), (⟨#[97, 46, 115, 114, 99]⟩ : ByteArray), (⟨#[99]⟩ : ByteArray)])) 4] kr rfl ?_)
   refine (testgatemake_Tape_One_ok st r11 r12 hx6).mono ?_
   clear st
   rintro _ w13 ⟨a13, c13, m12, rfl, hle10, st, r13⟩
   refine ⟨_, rfl, ?_⟩
   have hm := Mem.le_trans hm hle10
   have r8 := r8.mono hle10
   have r10 := r10.mono hle10
   have r12 := r12.mono hle10
   have r11 := r11.mono hle10
   refine WO_seg 1 [(36, .pointer (some ⟨bp0, 0, none⟩))] kr kr ?_
   refine WO_one rfl (One_buildSlice (d := 37) (t := 33) (e := 9) (len := 3) (parts := #[(0, (.const (.string (⟨#[]⟩ : ByteArray)))), (1, (.const (.string (⟨#[]⟩ : ByteArray)))), (2, (.const (.string (⟨#[120]⟩ : ByteArray))))]) cStr (xs := [(⟨#[]⟩ : ByteArray), (⟨#[]⟩ : ByteArray), (⟨#[120]⟩ : ByteArray)]) [.string (⟨#[]⟩ : ByteArray), .string (⟨#[]⟩ : ByteArray), .string (⟨#[120]⟩ : ByteArray)] kr rfl (fun _ => buildCells_run kr _) rfl rfl st ⟨[.string (⟨#[]⟩ : ByteArray)], _, rfl, rfl, ⟨[.string (⟨#[]⟩ : ByteArray)], _, rfl, rfl, ⟨[.string (⟨#[120]⟩ : ByteArray)], _, rfl, rfl, rfl⟩⟩⟩ ?_)
   clear st
   intro b6 m13 w14 hle11 st r14
   have hm := Mem.le_trans hm hle11
   have r8 := r8.mono hle11
   have r10 := r10.mono hle11
   have r12 := r12.mono hle11
   have r13 := r13.mono hle11
   have st := st.front1
   replace ⟨y6, hx7, hr⟩ := bindS hr
   refine WO_one rfl (One_fn 38 13 #[.pointer (some ⟨bp0, 0, none⟩), .slice (some ⟨b6, 0, none⟩) (List.length ([(⟨#[]⟩ : ByteArray), (⟨#[]⟩ : ByteArray), (⟨#[120]⟩ : ByteArray)])) 3] kr rfl ?_)
   refine (testgatemake_Tape_One_ok st r13 r14 hx7).mono ?_
   clear st
   rintro _ w15 ⟨a14, c14, m14, rfl, hle12, st, r15⟩
   refine ⟨_, rfl, ?_⟩
   have hm := Mem.le_trans hm hle12
   have r8 := r8.mono hle12
   have r10 := r10.mono hle12
   have r12 := r12.mono hle12
   have r14 := r14.mono hle12
   have r13 := r13.mono hle12
   refine WO_seg 1 [(39, .agg #[.int .i64 y3.2, .string y4.2, .string y5.2, .string y6.2])] kr kr ?_
   refine WO_one rfl (One_buildSlice (d := 40) (t := 58) (e := 72) (len := 1) (parts := #[(0, (.tmp 39))]) (cPair (cInt .i64) (cPair cStr (cPair cStr cStr))) (xs := [(y3.2, y4.2, y5.2, y6.2)]) [.int .i64 y3.2, .string y4.2, .string y5.2, .string y6.2] kr rfl (fun _ => buildCells_run kr _) rfl rfl st ⟨[.int .i64 y3.2, .string y4.2, .string y5.2, .string y6.2], _, rfl, ⟨_, _, rfl, rfl, ⟨_, _, rfl, rfl, ⟨_, _, rfl, rfl, rfl⟩⟩⟩, rfl⟩ ?_)
   clear st
   intro b7 m15 w16 hle13 st r16
   have hm := Mem.le_trans hm hle13
   have r8 := r8.mono hle13
   have r10 := r10.mono hle13
   have r12 := r12.mono hle13
   have r14 := r14.mono hle13
   have r15 := r15.mono hle13
   have st := st.front6
   replace ⟨l2, hx8, hr⟩ := bindS hr
   refine WO_one rfl (One_appendM (d := 41) (t := 58) (u := 58) (e := 72) (by_ := 56) (x := (.tmp 26)) (y := (.tmp 40)) (c := (cPair (cInt .i64) (cPair cStr (cPair cStr cStr)))) (f := (fun x : Int × ByteArray × ByteArray × ByteArray => ([.int .i64 x.1, .string x.2.1, .string x.2.2.1, .string x.2.2.2] : List Value))) (l := s1.1) (fun _ _ _ h => by obtain ⟨_, _, rfl, rfl, ⟨_, _, rfl, rfl, ⟨_, _, rfl, rfl, rfl⟩⟩⟩ := h; rfl) (fun _ => rfl) kr rfl (ev (.slice a9 (List.length s1.1) c9)) (ev (.slice (some ⟨b7, 0, none⟩) (List.length ([(y3.2, y4.2, y5.2, y6.2)])) 1)) st hs3 rfl kr (.inl kr) r16.src hx8 ?_)
   clear st
   intro a15 c15 T4 w17 hs4 st
   refine WO_seg 1 [(7, .slice a15 (List.length l2) c15)] kr kr ?_
   refine WO_end rfl ?_
   have st := st.front1
   have st := st.tail
   have st := st.front2
   have st := st.tail
   have st := st.front2
   have st := st.tail
   have st := st.front2
   have st := st.tail
   have st := st.front2
   have st := st.tail
   refine X_block ?_
   refine X_then ?_
   refine W_region ?_
   refine WO_seg 3 [(9, .int .i64 (IntKind.wrap .i64 (s1.2.1 - 1)))] kr kr ?_
   refine WO_end rfl ?_
   obtain rfl := Option.some.inj hr
   have hL := hSu1 _ rfl
   have st := st.front1
   exact X_env _ kr (X_round k1 (Nat.lt_succ_self _) ⟨(l2, IntKind.wrap .i64 (s1.2.1 - 1), y6.1.1, y6.1.2), a15, c15, T4, a14, c14, m15, hL, rfl, hm, st, r15, hs4⟩)
  ·intro hc
   rw [if_neg (not_true hc)] at hr
   refine W_exit ?_
   refine X_then_exit ?_
   obtain rfl := Option.some.inj hr
   have ho := hBu1 _ rfl
   have st := st.front1.front1
   refine X_then_exit ?_
   exact X_env _ kr (K0_u1 _ _ ⟨(s1.1, s1.2.2.1, s1.2.2.2), a9, c9, T3, a10, c10, m6, ho, rfl, hm, st, r7, hs3⟩)
def internal_stringslite_IndexByte (N : Nat) (p0 : ByteArray) (p1 : Int) : Option (Int) :=
 some (ixB p0 p1)
set_option maxHeartbeats 4000000 in
set_option maxRecDepth 100000 in
theorem internal_stringslite_IndexByte_ok {N : Nat} {m : Mem} {own : List Piece} {w : World} {p0 : ByteArray} {p1 : Int} {r : Int} (st : St m (own) w) (hr : internal_stringslite_IndexByte N p0 p1 = some r) : Calls Tryz.prog 213 #[.string p0, .int .u8 p1] w fun e w' => ∃ (m' : Mem), e = .returned (.int .i64 r) ∧ m.le m' ∧ St m' (own) w' := by
 unfold internal_stringslite_IndexByte at hr
 have hm := m.le_refl
 refine W_calls Tryz.func213 rfl Tryz.ntmps213 [(0, .string p0), (1, .int .u8 p1)] kr rfl ?_
 refine W_sr (WO_seg 1 [] kr kr ?_)
 refine WO_et rfl (W_sr ?_)
 refine WO_seg 2 [(5, .string p0), (6, .int .u8 p1)] kr kr ?_
 refine WO_one rfl (One_indexByte (d := 7) (f := 244) (x := (.tmp 5)) (y := (.tmp 6)) (ts := #[9, 5]) kr rfl (ev (.string p0)) (ev (.int .u8 p1)) Tryz.func244 kr kr ?_)
 refine WO_seg 1 [(4, .int .i64 (ixB p0 p1))] kr kr ?_
 refine WO_et rfl (W_ret ?_)
 obtain rfl := Option.some.inj hr
 refine X_ret [.tmp 4] [.int .i64 (ixB p0 p1)] rfl (ResAll.cons (ResAt.tmp kr) ResAll.nil) ?_
 exact ⟨m, rfl, hm, st⟩
def internal_stringslite_Index (N : Nat) (p0 : ByteArray) (p1 : ByteArray) : Option (Int) :=
 (if ((ByteArray.size p1 : Int) == 0) = true then (some true) else (some (p1.toList == p0.toList)) : Option (Bool)).bind fun o1 => if o1 = true then (some 0) else (if ((ByteArray.size p1 : Int) == 1) = true then ((idxB p1 0).bind fun x1 => (internal_stringslite_IndexByte N p0 (x1.toNat : Int)).bind fun y1 => some y1) else (if (decide ((ByteArray.size p1 : Int) ≥ (ByteArray.size p0 : Int))) = true then (some (-1)) else none))
set_option maxHeartbeats 4000000 in
set_option maxRecDepth 100000 in
theorem internal_stringslite_Index_ok {N : Nat} {m : Mem} {own : List Piece} {w : World} {p0 : ByteArray} {p1 : ByteArray} {r : Int} (st : St m (own) w) (hr : internal_stringslite_Index N p0 p1 = some r) : Calls Tryz.prog 233 #[.string p0, .string p1] w fun e w' => ∃ (m' : Mem), e = .returned (.int .i64 r) ∧ m.le m' ∧ St m' (own) w' := by
 unfold internal_stringslite_Index at hr
 have hm := m.le_refl
 refine W_calls Tryz.func233 rfl Tryz.ntmps233 [(0, .string p0), (1, .string p1)] kr rfl ?_
 refine W_sr (WO_seg 1 [] kr kr ?_)
 refine WO_et rfl (W_sr ?_)
 refine WO_seg 3 [(5, .int .i64 (ByteArray.size p1 : Int))] kr kr ?_
 refine WO_et rfl (W_seq ?_)
 refine W_block ?_
 refine W_sr ?_
 replace ⟨o1, hr, hrK⟩ := bindS hr
 refine WO_cut (j := 8) (fun L' w' => ∃ (m1 : Mem), L' = [(0, .string p0), (1, .string p1), (5, .int .i64 (ByteArray.size p1 : Int)), (16, .bool o1)] ∧ m.le m1 ∧ St m1 (own) w') ?_ ?_
 ·clear hr st
  have hr := hrK
  clear hrK
  rintro _ w1 ⟨m1, rfl, hm, st⟩
  refine WO_et rfl (W_cond o1 kr ?_ ?_)
  ·intro hc
   rw [if_pos hc] at hr
   refine W_sr (WO_seg 1 [(4, .int .i64 0)] kr kr ?_)
   refine WO_et rfl (W_ret ?_)
   refine X_block_ret ?_
   refine X_then_ret ?_
   obtain rfl := Option.some.inj hr
   refine X_ret [.tmp 4] [.int .i64 0] rfl (ResAll.cons (ResAt.tmp kr) ResAll.nil) ?_
   exact ⟨m1, rfl, hm, st⟩
  ·intro hc
   rw [if_neg (not_true hc)] at hr
   refine W_sr (WO_seg 3 [(24, .bool ((ByteArray.size p1 : Int) == 1))] kr kr ?_)
   refine WO_et rfl (W_cond ((ByteArray.size p1 : Int) == 1) kr ?_ ?_)
   ·intro hc
    rw [if_pos hc] at hr
    refine W_sr (WO_seg 2 [(27, .string p0), (28, .string p1)] kr kr ?_)
    replace ⟨x1, hx1, hr⟩ := bindS hr
    refine WO_one rfl (One_strIndex (d := 29) (t := 9) (x := (.tmp 28)) (y := (.const (.int .i64 0))) kr rfl (ev (.string p1)) (ev (.int .i64 0)) kr hx1 ?_)
    replace ⟨y1, hx2, hr⟩ := bindS hr
    refine WO_one rfl (One_fn 30 213 #[.string p0, .int .u8 (x1.toNat : Int)] kr rfl ?_)
    refine (internal_stringslite_IndexByte_ok st hx2).mono ?_
    clear st
    rintro _ w2 ⟨m2, rfl, hle1, st⟩
    refine ⟨_, rfl, ?_⟩
    have hm := Mem.le_trans hm hle1
    refine WO_seg 1 [(4, .int .i64 y1)] kr kr ?_
    refine WO_et rfl (W_ret ?_)
    refine X_block_ret ?_
    refine X_then_ret ?_
    obtain rfl := Option.some.inj hr
    refine X_ret [.tmp 4] [.int .i64 y1] rfl (ResAll.cons (ResAt.tmp kr) ResAll.nil) ?_
    exact ⟨m2, rfl, hm, st⟩
   ·intro hc
    rw [if_neg (not_true hc)] at hr
    refine W_sr (WO_seg 5 [(31, .bool (decide ((ByteArray.size p1 : Int) ≥ (ByteArray.size p0 : Int))))] kr kr ?_)
    refine WO_et rfl (W_cond (decide ((ByteArray.size p1 : Int) ≥ (ByteArray.size p0 : Int))) kr ?_ ?_)
    ·intro hc
     rw [if_pos hc] at hr
     refine W_sr (WO_seg 1 [(4, .int .i64 (-1))] kr kr ?_)
     refine WO_et rfl (W_ret ?_)
     refine X_block_ret ?_
     refine X_then_ret ?_
     obtain rfl := Option.some.inj hr
     refine X_ret [.tmp 4] [.int .i64 (-1)] rfl (ResAll.cons (ResAt.tmp kr) ResAll.nil) ?_
     exact ⟨m1, rfl, hm, st⟩
    ·intro hc
     rw [if_neg (not_true hc)] at hr
     cases hr
 ·intro K
  clear hrK
  refine WO_seg 3 [(19, .bool ((ByteArray.size p1 : Int) == 0))] kr kr ?_
  rcases bcases ((ByteArray.size p1 : Int) == 0) with hc | hc
  ·rw [if_pos hc] at hr
   refine WO_fact (t := 19) (b := true) ((ByteArray.size p1 : Int) == 0) kr hc ?_
   refine WO_seg 5 [(16, .bool true)] kr kr ?_
   obtain rfl := Option.some.inj hr
   exact WO_env _ kr (K _ _ ⟨m, rfl, hm, st⟩)
  ·rw [if_neg (not_true hc)] at hr
   refine WO_fact (t := 19) (b := false) ((ByteArray.size p1 : Int) == 0) kr hc ?_
   refine WO_seg 5 [(16, .bool (p1.toList == p0.toList))] kr kr ?_
   obtain rfl := Option.some.inj hr
   exact WO_env _ kr (K _ _ ⟨m, rfl, hm, st⟩)
def strings_Index (N : Nat) (p0 : ByteArray) (p1 : ByteArray) : Option (Int) :=
 (internal_stringslite_Index N p0 p1).bind fun y1 => some y1
set_option maxHeartbeats 4000000 in
set_option maxRecDepth 100000 in
theorem strings_Index_ok {N : Nat} {m : Mem} {own : List Piece} {w : World} {p0 : ByteArray} {p1 : ByteArray} {r : Int} (st : St m (own) w) (hr : strings_Index N p0 p1 = some r) : Calls Tryz.prog 203 #[.string p0, .string p1] w fun e w' => ∃ (m' : Mem), e = .returned (.int .i64 r) ∧ m.le m' ∧ St m' (own) w' := by
 unfold strings_Index at hr
 have hm := m.le_refl
 refine W_calls Tryz.func203 rfl Tryz.ntmps203 [(0, .string p0), (1, .string p1)] kr rfl ?_
 refine W_sr (WO_seg 1 [] kr kr ?_)
 refine WO_et rfl (W_sr ?_)
 refine WO_seg 2 [(5, .string p0), (6, .string p1)] kr kr ?_
 replace ⟨y1, hx1, hr⟩ := bindS hr
 refine WO_one rfl (One_fn 7 233 #[.string p0, .string p1] kr rfl ?_)
 refine (internal_stringslite_Index_ok st hx1).mono ?_
 clear st
 rintro _ w1 ⟨m1, rfl, hle1, st⟩
 refine ⟨_, rfl, ?_⟩
 have hm := Mem.le_trans hm hle1
 refine WO_seg 1 [(4, .int .i64 y1)] kr kr ?_
 refine WO_et rfl (W_ret ?_)
 obtain rfl := Option.some.inj hr
 refine X_ret [.tmp 4] [.int .i64 y1] rfl (ResAll.cons (ResAt.tmp kr) ResAll.nil) ?_
 exact ⟨m1, rfl, hm, st⟩
def strings_Count_L1 (N : Nat) (p1 : ByteArray) (s1 : ByteArray × Int) : Option ((ByteArray × Int) ⊕ ((Int))) :=
 (strings_Index N s1.1 p1).bind fun y1 => if (y1 == (-1)) = true then (some (.inr s1.2)) else ((subB s1.1 (IntKind.wrap .i64 (y1 + (ByteArray.size p1 : Int))) (ByteArray.size s1.1 : Int)).bind fun s2 => some (.inl (s2, IntKind.wrap .i64 (s1.2 + 1))))
def strings_Count (N : Nat) (p0 : ByteArray) (p1 : ByteArray) : Option (Int) :=
 if ((ByteArray.size p1 : Int) == 0) = true then none else (if ((ByteArray.size p1 : Int) == 1) = true then ((idxB p1 0).bind fun x1 => some (cntB p0 (x1.toNat : Int))) else ((loopM (strings_Count_L1 N p1) N (p0, 0)).bind fun z => some z))
set_option maxHeartbeats 4000000 in
set_option maxRecDepth 100000 in
theorem strings_Count_ok {N : Nat} {m : Mem} {own : List Piece} {w : World} {p0 : ByteArray} {p1 : ByteArray} {r : Int} (st : St m (own) w) (hr : strings_Count N p0 p1 = some r) : Calls Tryz.prog 202 #[.string p0, .string p1] w fun e w' => ∃ (m' : Mem), e = .returned (.int .i64 r) ∧ m.le m' ∧ St m' (own) w' := by
 unfold strings_Count at hr
 have hm := m.le_refl
 refine W_calls Tryz.func202 rfl Tryz.ntmps202 [(0, .string p0), (1, .string p1)] kr rfl ?_
 refine W_sr (WO_seg 1 [] kr kr ?_)
 refine WO_et rfl (W_seq ?_)
 refine W_sr (WO_seg 3 [(9, .bool ((ByteArray.size p1 : Int) == 0))] kr kr ?_)
 refine WO_et rfl (W_cond ((ByteArray.size p1 : Int) == 0) kr ?_ ?_)
 ·intro hc
  rw [if_pos hc] at hr
  cases hr
 ·intro hc
  rw [if_neg (not_true hc)] at hr
  refine W_skip ?_
  refine X_then ?_
  refine W_seq ?_
  refine W_sr (WO_seg 3 [(15, .bool ((ByteArray.size p1 : Int) == 1))] kr kr ?_)
  refine WO_et rfl (W_cond ((ByteArray.size p1 : Int) == 1) kr ?_ ?_)
  ·intro hc
   rw [if_pos hc] at hr
   refine W_sr (WO_seg 2 [(16, .string p0), (17, .string p1)] kr kr ?_)
   replace ⟨x1, hx1, hr⟩ := bindS hr
   refine WO_one rfl (One_strIndex (d := 18) (t := 9) (x := (.tmp 17)) (y := (.const (.int .i64 0))) kr rfl (ev (.string p1)) (ev (.int .i64 0)) kr hx1 ?_)
   refine WO_one rfl (One_countByte (d := 19) (f := 232) (x := (.tmp 16)) (y := (.tmp 18)) (ts := #[9, 5]) kr rfl (ev (.string p0)) (ev (.int .u8 (x1.toNat : Int))) Tryz.func232 kr kr ?_)
   refine WO_seg 1 [(4, .int .i64 (cntB p0 (x1.toNat : Int)))] kr kr ?_
   refine WO_et rfl (W_ret ?_)
   refine X_then_ret ?_
   obtain rfl := Option.some.inj hr
   refine X_ret [.tmp 4] [.int .i64 (cntB p0 (x1.toNat : Int))] rfl (ResAll.cons (ResAt.tmp kr) ResAll.nil) ?_
   exact ⟨m, rfl, hm, st⟩
  ·intro hc
   rw [if_neg (not_true hc)] at hr
   refine W_skip ?_
   refine X_then ?_
   refine W_sr (WO_seg 1 [(5, .int .i64 0)] kr kr ?_)
   refine WO_et rfl (W_block ?_)
   replace ⟨out1, hr, hrKu1⟩ := bindS hr
   refine W_env _ kr (W_loop (fun k1 L' w' => ∃ (s1 : ByteArray × Int) (m1 : Mem), loopM (strings_Count_L1 N p1) k1 s1 = some out1 ∧ L' = [(0, .string s1.1), (1, .string p1), (5, .int .i64 s1.2)] ∧ m.le m1 ∧ St m1 (own) w') N ⟨(p0, 0), m, hr, rfl, hm, st⟩ ?_)
   clear st hr
   rintro k1 _ w1 ⟨s1, m1, hL, rfl, hm, st⟩
   rcases k1 with _ | k1
   ·exact loopM_zero hL
   ·obtain ⟨qu1, hr, hSu1, hBu1⟩ := loopM_succ hL
    clear hL
    unfold strings_Count_L1 at hr
    refine W_block ?_
    refine W_sr (WO_seg 2 [(20, .string s1.1), (21, .string p1)] kr kr ?_)
    replace ⟨y1, hx2, hr⟩ := bindS hr
    refine WO_one rfl (One_fn 22 203 #[.string s1.1, .string p1] kr rfl ?_)
    refine (strings_Index_ok st hx2).mono ?_
    clear st
    rintro _ w2 ⟨m2, rfl, hle1, st⟩
    refine ⟨_, rfl, ?_⟩
    have hm := Mem.le_trans hm hle1
    refine WO_seg 1 [(6, .int .i64 y1)] kr kr ?_
    refine WO_et rfl (W_seq ?_)
    refine W_sr (WO_seg 2 [(24, .bool (y1 == (-1)))] kr kr ?_)
    refine WO_et rfl (W_cond (y1 == (-1)) kr ?_ ?_)
    ·intro hc
     rw [if_pos hc] at hr
     refine W_sr (WO_seg 2 [(4, .int .i64 s1.2)] kr kr ?_)
     refine WO_et rfl (W_ret ?_)
     refine X_then_ret ?_
     refine X_block_ret ?_
     obtain rfl := Option.some.inj hr
     have ho := hBu1 _ rfl
     subst ho
     have hr := hrKu1
     refine X_then_ret ?_
     refine X_block_ret ?_
     obtain rfl := Option.some.inj hr
     refine X_ret [.tmp 4] [.int .i64 s1.2] rfl (ResAll.cons (ResAt.tmp kr) ResAll.nil) ?_
     exact ⟨m2, rfl, hm, st⟩
    ·intro hc
     rw [if_neg (not_true hc)] at hr
     refine W_skip ?_
     refine X_then ?_
     refine W_sr (WO_seg 3 [(5, .int .i64 (IntKind.wrap .i64 (s1.2 + 1)))] kr kr ?_)
     refine WO_et rfl (W_region ?_)
     refine WO_seg 5 [(28, .string s1.1), (32, .int .i64 (IntKind.wrap .i64 (y1 + (ByteArray.size p1 : Int))))] kr kr ?_
     replace ⟨s2, hx3, hr⟩ := bindS hr
     refine WO_one rfl (One_strSlice (d := 33) (t := 9) (x := (.tmp 28)) (lo := (some (.tmp 32))) (hi := none) kr rfl (ev (.string s1.1)) kr (.inr ⟨_, _, rfl, (ev (.int .i64 (IntKind.wrap .i64 (y1 + (ByteArray.size p1 : Int)))))⟩) (.inl ⟨rfl, rfl⟩) hx3 ?_)
     refine WO_seg 1 [(0, .string s2)] kr kr ?_
     refine WO_end rfl ?_
     refine X_block ?_
     obtain rfl := Option.some.inj hr
     have hL := hSu1 _ rfl
     exact X_env _ kr (X_round k1 (Nat.lt_succ_self _) ⟨(s2, IntKind.wrap .i64 (s1.2 + 1)), m2, hL, rfl, hm, st⟩)
def strings_genSplit_L1 (N : Nat) (p0 : ByteArray) (p1 : ByteArray) (p2 : Int) (o1 : Int) (s1 : ByteArray × Int × List (ByteArray)) : Option ((ByteArray × Int × List (ByteArray)) ⊕ ((ByteArray × Int × List (ByteArray)))) :=
 if (decide (s1.2.1 < (IntKind.wrap .i64 ((if (IntKind.wrap .i64 ((ByteArray.size p0 : Int) + 1)) < o1 then (IntKind.wrap .i64 ((ByteArray.size p0 : Int) + 1)) else o1) - 1)))) = true then ((strings_Index N s1.1 p1).bind fun y2 => if (decide (y2 < 0)) = true then (some (.inr (s1.1, s1.2.1, s1.2.2))) else ((subB s1.1 0 (IntKind.wrap .i64 (y2 + p2))).bind fun s2 => (idx s1.2.2 s1.2.1).bind fun x1 => (subB s1.1 (IntKind.wrap .i64 (y2 + (ByteArray.size p1 : Int))) (ByteArray.size s1.1 : Int)).bind fun s3 => some (.inl (s3, IntKind.wrap .i64 (s1.2.1 + 1), List.set s1.2.2 (Int.toNat s1.2.1) s2)))) else (some (.inr (s1.1, s1.2.1, s1.2.2)))
def strings_genSplit (N : Nat) (p0 : ByteArray) (p1 : ByteArray) (p2 : Int) (p3 : Int) : Option (List ByteArray) :=
 if (p3 == 0) = true then (some ([] : List (ByteArray))) else (if (p1.toList == (⟨#[]⟩ : ByteArray).toList) = true then none else ((if (decide (p3 < 0)) = true then ((strings_Count N p0 p1).bind fun y1 => some (IntKind.wrap .i64 (y1 + 1))) else (some p3) : Option (Int)).bind fun o1 => (makeA 16 (⟨#[]⟩ : ByteArray) (if (IntKind.wrap .i64 ((ByteArray.size p0 : Int) + 1)) < o1 then (IntKind.wrap .i64 ((ByteArray.size p0 : Int) + 1)) else o1)).bind fun l1 => (loopM (strings_genSplit_L1 N p0 p1 p2 o1) N (p0, 0, l1)).bind fun o2 => (idx o2.2.2 o2.2.1).bind fun x2 => (subS (List.set o2.2.2 (Int.toNat o2.2.1) o2.1) 0 (IntKind.wrap .i64 (o2.2.1 + 1))).bind fun l2 => some l2))
set_option maxHeartbeats 4000000 in
set_option maxRecDepth 100000 in
theorem strings_genSplit_ok {N : Nat} {m : Mem} {own : List Piece} {w : World} {p0 : ByteArray} {p1 : ByteArray} {p2 : Int} {p3 : Int} {r : List ByteArray} (st : St m (own) w) (hr : strings_genSplit N p0 p1 p2 p3 = some r) : Calls Tryz.prog 155 #[.string p0, .string p1, .int .i64 p2, .int .i64 p3] w fun e w' => ∃ (ra1 : Option Addr) (rc1 : Nat) (m' : Mem), e = .returned (.slice ra1 (List.length r) rc1) ∧ m.le m' ∧ St m' (own) w' ∧ RepS cStr m' ra1 rc1 r := by
 unfold strings_genSplit at hr
 have hm := m.le_refl
 refine W_calls Tryz.func155 rfl Tryz.ntmps155 [(0, .string p0), (1, .string p1), (2, .int .i64 p2), (3, .int .i64 p3)] kr rfl ?_
 refine W_sr (WO_seg 1 [] kr kr ?_)
 refine WO_et rfl (W_seq ?_)
 refine W_sr (WO_seg 2 [(13, .bool (p3 == 0))] kr kr ?_)
 refine WO_et rfl (W_cond (p3 == 0) kr ?_ ?_)
 ·intro hc
  rw [if_pos hc] at hr
  refine W_sr (WO_seg 1 [(8, .slice none (List.length ([] : List (ByteArray))) 0)] kr kr ?_)
  refine WO_et rfl (W_ret ?_)
  refine X_then_ret ?_
  obtain rfl := Option.some.inj hr
  refine X_ret [.tmp 8] [.slice none (List.length ([] : List (ByteArray))) 0] rfl (ResAll.cons (ResAt.tmp kr) ResAll.nil) ?_
  exact ⟨none, 0, m, rfl, hm, st, (RepS.nil _ _)⟩
 ·intro hc
  rw [if_neg (not_true hc)] at hr
  refine W_skip ?_
  refine X_then ?_
  refine W_seq ?_
  refine W_sr (WO_seg 2 [(15, .bool (p1.toList == (⟨#[]⟩ : ByteArray).toList))] kr kr ?_)
  refine WO_et rfl (W_cond (p1.toList == (⟨#[]⟩ : ByteArray).toList) kr ?_ ?_)
  ·intro hc
   rw [if_pos hc] at hr
   cases hr
  ·intro hc
   rw [if_neg (not_true hc)] at hr
   refine W_skip ?_
   refine X_then ?_
   refine W_seq ?_
   refine W_sr (WO_seg 2 [(20, .bool (decide (p3 < 0)))] kr kr ?_)
   refine WO_et rfl ?_
   replace ⟨o1, hr, hrKu1⟩ := bindS hr
   refine W_cut .normal (fun L' w' => ∃ (m1 : Mem), L' = [(0, .string p0), (1, .string p1), (2, .int .i64 p2), (3, .int .i64 o1)] ∧ m.le m1 ∧ St m1 (own) w') ?_ ?_
   ·clear hr st
    have hr := hrKu1
    clear hrKu1
    rintro _ w1 ⟨m1, rfl, hm, st⟩
    refine X_then ?_
    refine W_sr (WO_seg 6 [(3, .int .i64 (if (IntKind.wrap .i64 ((ByteArray.size p0 : Int) + 1)) < o1 then (IntKind.wrap .i64 ((ByteArray.size p0 : Int) + 1)) else o1))] kr kr ?_)
    refine WO_et rfl (W_sr ?_)
    refine WO_seg 1 [(30, .int .i64 (if (IntKind.wrap .i64 ((ByteArray.size p0 : Int) + 1)) < o1 then (IntKind.wrap .i64 ((ByteArray.size p0 : Int) + 1)) else o1))] kr kr ?_
    replace ⟨l1, hx2, hr⟩ := bindS hr
    refine WO_one rfl (One_makeArr (d := 31) (t := 33) (e := 9) (by_ := 16) (x := (.tmp 30)) (y := (.tmp 30)) (fun x : ByteArray => Value.string x) kr rfl (ev (.int .i64 (if (IntKind.wrap .i64 ((ByteArray.size p0 : Int) + 1)) < o1 then (IntKind.wrap .i64 ((ByteArray.size p0 : Int) + 1)) else o1))) (ev (.int .i64 (if (IntKind.wrap .i64 ((ByteArray.size p0 : Int) + 1)) < o1 then (IntKind.wrap .i64 ((ByteArray.size p0 : Int) + 1)) else o1))) kr kr rfl st hx2 ?_)
    clear st
    intro b1 w3 hn1 st
    refine WO_seg 1 [(9, .slice (some ⟨b1, 0, none⟩) (Int.toNat (if (IntKind.wrap .i64 ((ByteArray.size p0 : Int) + 1)) < o1 then (IntKind.wrap .i64 ((ByteArray.size p0 : Int) + 1)) else o1)) (Int.toNat (if (IntKind.wrap .i64 ((ByteArray.size p0 : Int) + 1)) < o1 then (IntKind.wrap .i64 ((ByteArray.size p0 : Int) + 1)) else o1)))] kr kr ?_
    refine WO_et rfl (W_sr ?_)
    refine WO_seg 3 [(3, .int .i64 (IntKind.wrap .i64 ((if (IntKind.wrap .i64 ((ByteArray.size p0 : Int) + 1)) < o1 then (IntKind.wrap .i64 ((ByteArray.size p0 : Int) + 1)) else o1) - 1)))] kr kr ?_
    refine WO_et rfl (W_sr ?_)
    refine WO_seg 1 [(10, .int .i64 0)] kr kr ?_
    refine WO_et rfl (W_seq ?_)
    refine W_block ?_
    replace ⟨out1, hr, hrKu2⟩ := bindS hr
    refine W_cut (.exit 0) (fun L' w' => ∃ (o2 : ByteArray × Int × List (ByteArray)) (m3 : Mem), o2 = out1 ∧ L' = [(0, .string o2.1), (9, .slice (some ⟨b1, 0, none⟩) (Int.toNat (if (IntKind.wrap .i64 ((ByteArray.size p0 : Int) + 1)) < o1 then (IntKind.wrap .i64 ((ByteArray.size p0 : Int) + 1)) else o1)) (Int.toNat (if (IntKind.wrap .i64 ((ByteArray.size p0 : Int) + 1)) < o1 then (IntKind.wrap .i64 ((ByteArray.size p0 : Int) + 1)) else o1))), (10, .int .i64 o2.2.1)] ∧ m.le m3 ∧ St m3 (.blk b1 (.cells (acells (fun x : ByteArray => Value.string x) o2.2.2 []) 9 (0, 0)) :: own) w' ∧ List.length o2.2.2 = (Int.toNat (if (IntKind.wrap .i64 ((ByteArray.size p0 : Int) + 1)) < o1 then (IntKind.wrap .i64 ((ByteArray.size p0 : Int) + 1)) else o1))) ?_ ?_
    ·clear hr st
     rintro _ w4 ⟨o2, m3, rfl, rfl, hm, st, hn2⟩
     have hr := hrKu2
     clear hrKu2
     refine X_block_eq ?_
     refine X_then ?_
     refine W_sr (WO_seg 3 [(58, .slice (some ⟨b1, 0, none⟩) (Int.toNat (if (IntKind.wrap .i64 ((ByteArray.size p0 : Int) + 1)) < o1 then (IntKind.wrap .i64 ((ByteArray.size p0 : Int) + 1)) else o1)) (Int.toNat (if (IntKind.wrap .i64 ((ByteArray.size p0 : Int) + 1)) < o1 then (IntKind.wrap .i64 ((ByteArray.size p0 : Int) + 1)) else o1))), (59, .int .i64 o2.2.1), (60, .string o2.1)] kr kr ?_)
     replace ⟨x2, hx7, hr⟩ := bindS hr
     refine WO_one rfl (One_arrIndex (d := 61) (t := 33) (e := 9) (x := (.tmp 58)) (y := (.tmp 59)) kr rfl (ev (.slice (some ⟨b1, 0, none⟩) (Int.toNat (if (IntKind.wrap .i64 ((ByteArray.size p0 : Int) + 1)) < o1 then (IntKind.wrap .i64 ((ByteArray.size p0 : Int) + 1)) else o1)) (Int.toNat (if (IntKind.wrap .i64 ((ByteArray.size p0 : Int) + 1)) < o1 then (IntKind.wrap .i64 ((ByteArray.size p0 : Int) + 1)) else o1)))) (ev (.int .i64 o2.2.1)) kr hn2 hx7 ?_)
     refine WO_one rfl (One_arrStore (f := (fun x : ByteArray => Value.string x)) (u := o2.1) (t := 9) (x := (.tmp 61)) (y := (.tmp 60)) kr (ev (.pointer (some ⟨b1, Int.toNat o2.2.1, none⟩))) (ev (.string o2.1)) st hx7 rfl kr ?_)
     clear st
     intro w8 st
     have hn5 : List.length (List.set o2.2.2 (Int.toNat o2.2.1) o2.1) = (Int.toNat (if (IntKind.wrap .i64 ((ByteArray.size p0 : Int) + 1)) < o1 then (IntKind.wrap .i64 ((ByteArray.size p0 : Int) + 1)) else o1)) := set_len hn2 _ _
     refine WO_et rfl (W_sr ?_)
     refine WO_seg 3 [(62, .slice (some ⟨b1, 0, none⟩) (Int.toNat (if (IntKind.wrap .i64 ((ByteArray.size p0 : Int) + 1)) < o1 then (IntKind.wrap .i64 ((ByteArray.size p0 : Int) + 1)) else o1)) (Int.toNat (if (IntKind.wrap .i64 ((ByteArray.size p0 : Int) + 1)) < o1 then (IntKind.wrap .i64 ((ByteArray.size p0 : Int) + 1)) else o1))), (64, .int .i64 (IntKind.wrap .i64 (o2.2.1 + 1)))] kr kr ?_
     obtain ⟨m6, hle3, st, r1⟩ := St.freeze (c := cStr) st hn5 (Nat.le_refl _) (makeA_le hx2) (acells_size hn5 (Nat.add_zero _)) rfl (fun _ _ => rfl)
     have hm := Mem.le_trans hm hle3
     refine WO_env [(9, .slice (some ⟨b1, 0, none⟩) (List.length (List.set o2.2.2 (Int.toNat o2.2.1) o2.1)) (Int.toNat (if (IntKind.wrap .i64 ((ByteArray.size p0 : Int) + 1)) < o1 then (IntKind.wrap .i64 ((ByteArray.size p0 : Int) + 1)) else o1))), (10, .int .i64 o2.2.1), (62, .slice (some ⟨b1, 0, none⟩) (List.length (List.set o2.2.2 (Int.toNat o2.2.1) o2.1)) (Int.toNat (if (IntKind.wrap .i64 ((ByteArray.size p0 : Int) + 1)) < o1 then (IntKind.wrap .i64 ((ByteArray.size p0 : Int) + 1)) else o1))), (64, .int .i64 (IntKind.wrap .i64 (o2.2.1 + 1)))] (by (try simp only [hn5]); kernel_rfl) ?_
     replace ⟨l2, hx8, hr⟩ := bindS hr
     refine WO_one rfl (One_slice (d := 65) (t := 33) (e := 9) (x := (.tmp 62)) (lo := none) (hi := (some (.tmp 64))) cStr kr rfl (ev (.slice (some ⟨b1, 0, none⟩) (List.length (List.set o2.2.2 (Int.toNat o2.2.1) o2.1)) (Int.toNat (if (IntKind.wrap .i64 ((ByteArray.size p0 : Int) + 1)) < o1 then (IntKind.wrap .i64 ((ByteArray.size p0 : Int) + 1)) else o1)))) kr r1 (.inl ⟨rfl, rfl⟩) (.inr ⟨_, _, rfl, (ev (.int .i64 (IntKind.wrap .i64 (o2.2.1 + 1))))⟩) hx8 ?_)
     intro a1 c1 r2
     refine WO_seg 1 [(8, .slice a1 (List.length l2) c1)] kr kr ?_
     refine WO_end rfl ?_
     have st := st.tail
     refine X_then ?_
     refine W_ret ?_
     obtain rfl := Option.some.inj hr
     refine X_ret [.tmp 8] [.slice a1 (List.length l2) c1] rfl (ResAll.cons (ResAt.tmp kr) ResAll.nil) ?_
     exact ⟨a1, c1, m6, rfl, hm, st, r2⟩
    intro K0_u2
    clear hrKu2
    refine W_env _ kr (W_loop (fun k1 L' w' => ∃ (s1 : ByteArray × Int × List (ByteArray)) (m4 : Mem), loopM (strings_genSplit_L1 N p0 p1 p2 o1) k1 s1 = some out1 ∧ L' = [(0, .string s1.1), (1, .string p1), (2, .int .i64 p2), (3, .int .i64 (IntKind.wrap .i64 ((if (IntKind.wrap .i64 ((ByteArray.size p0 : Int) + 1)) < o1 then (IntKind.wrap .i64 ((ByteArray.size p0 : Int) + 1)) else o1) - 1))), (9, .slice (some ⟨b1, 0, none⟩) (Int.toNat (if (IntKind.wrap .i64 ((ByteArray.size p0 : Int) + 1)) < o1 then (IntKind.wrap .i64 ((ByteArray.size p0 : Int) + 1)) else o1)) (Int.toNat (if (IntKind.wrap .i64 ((ByteArray.size p0 : Int) + 1)) < o1 then (IntKind.wrap .i64 ((ByteArray.size p0 : Int) + 1)) else o1))), (10, .int .i64 s1.2.1)] ∧ m.le m4 ∧ St m4 (.blk b1 (.cells (acells (fun x : ByteArray => Value.string x) s1.2.2 []) 9 (0, 0)) :: own) w' ∧ List.length s1.2.2 = (Int.toNat (if (IntKind.wrap .i64 ((ByteArray.size p0 : Int) + 1)) < o1 then (IntKind.wrap .i64 ((ByteArray.size p0 : Int) + 1)) else o1))) N ⟨(p0, 0, l1), m1, hr, rfl, hm, st, hn1⟩ ?_)
    clear st hr
    rintro k1 _ w5 ⟨s1, m4, hL, rfl, hm, st, hn3⟩
    rcases k1 with _ | k1
    ·exact loopM_zero hL
    ·obtain ⟨qu2, hr, hSu2, hBu2⟩ := loopM_succ hL
     clear hL
     unfold strings_genSplit_L1 at hr
     refine W_seq ?_
     refine W_sr (WO_seg 3 [(36, .bool (decide (s1.2.1 < (IntKind.wrap .i64 ((if (IntKind.wrap .i64 ((ByteArray.size p0 : Int) + 1)) < o1 then (IntKind.wrap .i64 ((ByteArray.size p0 : Int) + 1)) else o1) - 1)))))] kr kr ?_)
     refine WO_et rfl (W_cond (decide (s1.2.1 < (IntKind.wrap .i64 ((if (IntKind.wrap .i64 ((ByteArray.size p0 : Int) + 1)) < o1 then (IntKind.wrap .i64 ((ByteArray.size p0 : Int) + 1)) else o1) - 1)))) kr ?_ ?_)
     ·intro hc
      rw [if_pos hc] at hr
      refine W_skip ?_
      refine X_then ?_
      refine W_block ?_
      refine W_sr (WO_seg 2 [(37, .string s1.1), (38, .string p1)] kr kr ?_)
      replace ⟨y2, hx3, hr⟩ := bindS hr
      refine WO_one rfl (One_fn 39 203 #[.string s1.1, .string p1] kr rfl ?_)
      refine (strings_Index_ok st hx3).mono ?_
      clear st
      rintro _ w6 ⟨m5, rfl, hle2, st⟩
      refine ⟨_, rfl, ?_⟩
      have hm := Mem.le_trans hm hle2
      refine WO_seg 1 [(11, .int .i64 y2)] kr kr ?_
      refine WO_et rfl (W_seq ?_)
      refine W_sr (WO_seg 2 [(41, .bool (decide (y2 < 0)))] kr kr ?_)
      refine WO_et rfl (W_cond (decide (y2 < 0)) kr ?_ ?_)
      ·intro hc
       rw [if_pos hc] at hr
       refine W_exit ?_
       refine X_then_exit ?_
       refine X_block_ne rfl ?_
       obtain rfl := Option.some.inj hr
       have ho := hBu2 _ rfl
       refine X_then_exit ?_
       exact X_env _ kr (K0_u2 _ _ ⟨(s1.1, s1.2.1, s1.2.2), m5, ho, rfl, hm, st, hn3⟩)
      ·intro hc
       rw [if_neg (not_true hc)] at hr
       refine W_skip ?_
       refine X_then ?_
       refine W_sr (WO_seg 6 [(42, .slice (some ⟨b1, 0, none⟩) (Int.toNat (if (IntKind.wrap .i64 ((ByteArray.size p0 : Int) + 1)) < o1 then (IntKind.wrap .i64 ((ByteArray.size p0 : Int) + 1)) else o1)) (Int.toNat (if (IntKind.wrap .i64 ((ByteArray.size p0 : Int) + 1)) < o1 then (IntKind.wrap .i64 ((ByteArray.size p0 : Int) + 1)) else o1))), (43, .int .i64 s1.2.1), (44, .string s1.1), (47, .int .i64 (IntKind.wrap .i64 (y2 + p2)))] kr kr ?_)
       replace ⟨s2, hx4, hr⟩ := bindS hr
       refine WO_one rfl (One_strSlice (d := 48) (t := 9) (x := (.tmp 44)) (lo := none) (hi := (some (.tmp 47))) kr rfl (ev (.string s1.1)) kr (.inl ⟨rfl, rfl⟩) (.inr ⟨_, _, rfl, (ev (.int .i64 (IntKind.wrap .i64 (y2 + p2))))⟩) hx4 ?_)
       replace ⟨x1, hx5, hr⟩ := bindS hr
       refine WO_one rfl (One_arrIndex (d := 49) (t := 33) (e := 9) (x := (.tmp 42)) (y := (.tmp 43)) kr rfl (ev (.slice (some ⟨b1, 0, none⟩) (Int.toNat (if (IntKind.wrap .i64 ((ByteArray.size p0 : Int) + 1)) < o1 then (IntKind.wrap .i64 ((ByteArray.size p0 : Int) + 1)) else o1)) (Int.toNat (if (IntKind.wrap .i64 ((ByteArray.size p0 : Int) + 1)) < o1 then (IntKind.wrap .i64 ((ByteArray.size p0 : Int) + 1)) else o1)))) (ev (.int .i64 s1.2.1)) kr hn3 hx5 ?_)
       refine WO_one rfl (One_arrStore (f := (fun x : ByteArray => Value.string x)) (u := s2) (t := 9) (x := (.tmp 49)) (y := (.tmp 48)) kr (ev (.pointer (some ⟨b1, Int.toNat s1.2.1, none⟩))) (ev (.string s2)) st hx5 rfl kr ?_)
       clear st
       intro w7 st
       have hn4 : List.length (List.set s1.2.2 (Int.toNat s1.2.1) s2) = (Int.toNat (if (IntKind.wrap .i64 ((ByteArray.size p0 : Int) + 1)) < o1 then (IntKind.wrap .i64 ((ByteArray.size p0 : Int) + 1)) else o1)) := set_len hn3 _ _
       refine WO_et rfl (W_sr ?_)
       refine WO_seg 5 [(50, .string s1.1), (54, .int .i64 (IntKind.wrap .i64 (y2 + (ByteArray.size p1 : Int))))] kr kr ?_
       replace ⟨s3, hx6, hr⟩ := bindS hr
       refine WO_one rfl (One_strSlice (d := 55) (t := 9) (x := (.tmp 50)) (lo := (some (.tmp 54))) (hi := none) kr rfl (ev (.string s1.1)) kr (.inr ⟨_, _, rfl, (ev (.int .i64 (IntKind.wrap .i64 (y2 + (ByteArray.size p1 : Int)))))⟩) (.inl ⟨rfl, rfl⟩) hx6 ?_)
       refine WO_seg 1 [(0, .string s3)] kr kr ?_
       refine WO_et rfl (W_region ?_)
       refine WO_seg 3 [(10, .int .i64 (IntKind.wrap .i64 (s1.2.1 + 1)))] kr kr ?_
       refine WO_end rfl ?_
       refine X_block ?_
       obtain rfl := Option.some.inj hr
       have hL := hSu2 _ rfl
       exact X_env _ kr (X_round k1 (Nat.lt_succ_self _) ⟨(s3, IntKind.wrap .i64 (s1.2.1 + 1), List.set s1.2.2 (Int.toNat s1.2.1) s2), m5, hL, rfl, hm, st, hn4⟩)
     ·intro hc
      rw [if_neg (not_true hc)] at hr
      refine W_exit ?_
      refine X_then_exit ?_
      obtain rfl := Option.some.inj hr
      have ho := hBu2 _ rfl
      refine X_then_exit ?_
      exact X_env _ kr (K0_u2 _ _ ⟨(s1.1, s1.2.1, s1.2.2), m4, ho, rfl, hm, st, hn3⟩)
   ·intro Ku1
    clear hrKu1
    refine W_cond (decide (p3 < 0)) kr ?_ ?_
    ·intro hc
     rw [if_pos hc] at hr
     refine W_region ?_
     refine WO_seg 2 [(21, .string p0), (22, .string p1)] kr kr ?_
     replace ⟨y1, hx1, hr⟩ := bindS hr
     refine WO_one rfl (One_fn 23 202 #[.string p0, .string p1] kr rfl ?_)
     refine (strings_Count_ok st hx1).mono ?_
     clear st
     rintro _ w2 ⟨m2, rfl, hle1, st⟩
     refine ⟨_, rfl, ?_⟩
     have hm := Mem.le_trans hm hle1
     refine WO_seg 2 [(3, .int .i64 (IntKind.wrap .i64 (y1 + 1)))] kr kr ?_
     refine WO_end rfl ?_
     obtain rfl := Option.some.inj hr
     exact X_env _ kr (Ku1 _ _ ⟨m2, rfl, hm, st⟩)
    ·intro hc
     rw [if_neg (not_true hc)] at hr
     refine W_skip ?_
     obtain rfl := Option.some.inj hr
     exact X_env _ kr (Ku1 _ _ ⟨m, rfl, hm, st⟩)
def strings_Split (N : Nat) (p0 : ByteArray) (p1 : ByteArray) : Option (List ByteArray) :=
 (strings_genSplit N p0 p1 0 (-1)).bind fun y1 => some y1
set_option maxHeartbeats 4000000 in
set_option maxRecDepth 100000 in
theorem strings_Split_ok {N : Nat} {m : Mem} {own : List Piece} {w : World} {p0 : ByteArray} {p1 : ByteArray} {r : List ByteArray} (st : St m (own) w) (hr : strings_Split N p0 p1 = some r) : Calls Tryz.prog 128 #[.string p0, .string p1] w fun e w' => ∃ (ra1 : Option Addr) (rc1 : Nat) (m' : Mem), e = .returned (.slice ra1 (List.length r) rc1) ∧ m.le m' ∧ St m' (own) w' ∧ RepS cStr m' ra1 rc1 r := by
 unfold strings_Split at hr
 have hm := m.le_refl
 refine W_calls Tryz.func128 rfl Tryz.ntmps128 [(0, .string p0), (1, .string p1)] kr rfl ?_
 refine W_sr (WO_seg 1 [] kr kr ?_)
 refine WO_et rfl (W_sr ?_)
 refine WO_seg 2 [(5, .string p0), (6, .string p1)] kr kr ?_
 replace ⟨y1, hx1, hr⟩ := bindS hr
 refine WO_one rfl (One_fn 7 155 #[.string p0, .string p1, .int .i64 0, .int .i64 (-1)] kr rfl ?_)
 refine (strings_genSplit_ok st hx1).mono ?_
 clear st
 rintro _ w1 ⟨a1, c1, m1, rfl, hle1, st, r1⟩
 refine ⟨_, rfl, ?_⟩
 have hm := Mem.le_trans hm hle1
 refine WO_seg 1 [(4, .slice a1 (List.length y1) c1)] kr kr ?_
 refine WO_et rfl (W_ret ?_)
 obtain rfl := Option.some.inj hr
 refine X_ret [.tmp 4] [.slice a1 (List.length y1) c1] rfl (ResAll.cons (ResAt.tmp kr) ResAll.nil) ?_
 exact ⟨a1, c1, m1, rfl, hm, st, r1⟩
def lexer_kinds_L2 (N : Nat) (kv1 : Int × ByteArray) (l1 : List (UInt8)) (s2 : Int × (Option (List (Int × Int)))) : Option ((Int × (Option (List (Int × Int)))) ⊕ (((Option (List (Int × Int)))))) :=
 if (decide (s2.1 < (List.length l1 : Int))) = true then ((idx l1 s2.1).bind fun x1 => (msetQ s2.2 (x1.toNat : Int) kv1.1).bind fun mp9 => some (.inl (IntKind.wrap .i64 (s2.1 + 1), mp9))) else (some (.inr s2.2))
def lexer_kinds_L1 (N : Nat) (z1 : Option (Int × ByteArray)) (s1 : (Option (List (Int × Int)))) : Option (((Option (List (Int × Int)))) ⊕ (((Option (List (Int × Int)))))) :=
 (match z1 with | none => some (.inr s1) | some kv1 => (bytesOf kv1.2).bind fun l1 => (loopM (lexer_kinds_L2 N kv1 l1) N (0, s1)).bind fun o2 => some (.inl o2))
def lexer_kinds (N : Nat) : Option (Option (List (Int × Int))) :=
 (msetQ (some [] : Option (List (Int × ByteArray))) 1 (⟨#[97, 98, 99, 100, 101, 102, 103, 104, 105, 106, 107, 108, 109, 110, 111, 112, 113, 114, 115, 116, 117, 118, 119, 120, 121, 122]⟩ : ByteArray)).bind fun mp1 => (msetQ mp1 2 (⟨#[48, 49, 50, 51, 52, 53, 54, 55, 56, 57]⟩ : ByteArray)).bind fun mp2 => (msetQ mp2 3 (⟨#[95]⟩ : ByteArray)).bind fun mp3 => (msetQ mp3 4 (⟨#[46]⟩ : ByteArray)).bind fun mp4 => (msetQ mp4 5 (⟨#[9, 10, 13, 32]⟩ : ByteArray)).bind fun mp5 => (msetQ mp5 6 (⟨#[35]⟩ : ByteArray)).bind fun mp6 => (msetQ mp6 7 (⟨#[34]⟩ : ByteArray)).bind fun mp7 => (msetQ mp7 8 (⟨#[59, 44, 40, 41, 43, 45, 42, 47, 37, 60, 61]⟩ : ByteArray)).bind fun mp8 => (mrange (lexer_kinds_L1 N) (Option.getD mp8 []) (some [] : Option (List (Int × Int)))).bind fun o1 => some o1
set_option maxHeartbeats 4000000 in
set_option maxRecDepth 100000 in
theorem lexer_kinds_ok {N : Nat} {m : Mem} {own : List Piece} {w : World} {r : Option (List (Int × Int))} (st : St m (own) w) (hr : lexer_kinds N = some r) : Calls Tryz.prog 121 #[] w fun e w' => ∃ (rq1 : Option Nat) (re1 : Array MapEntry) (rk1 : Nat) (m' : Mem), e = .returned (.map rq1) ∧ m.le m' ∧ St m' (mpiece rq1 re1 rk1 :: own) w' ∧ MapQ (fun n : Int => Value.int .u8 n) (cInt .i64) false m' rq1 re1 rk1 r := by
 unfold lexer_kinds at hr
 have hm := m.le_refl
 refine W_calls Tryz.func121 rfl Tryz.ntmps121 [] kr rfl ?_
 refine W_sr (WO_seg 1 [] kr kr ?_)
 refine WO_et rfl (W_sr ?_)
 refine WO_one rfl (One_makeMap (d := 6) (t := 164) kr rfl st ?_)
 clear st
 intro b1 w1 st
 refine WO_seg 1 [(1, .map (some b1))] kr kr ?_
 refine WO_et rfl (W_seq ?_)
 refine W_sr (WO_one rfl (One_makeMap (d := 7) (t := 207) kr rfl st ?_))
 clear st
 intro b2 w2 st
 replace ⟨mp1, hx1, hr⟩ := bindS hr
 refine WO_one rfl (One_insert (ek := (fun n : Int => Value.int .i64 n)) (c := cStr) (agg := false) (k := 1) (yv := (⟨#[97, 98, 99, 100, 101, 102, 103, 104, 105, 106, 107, 108, 109, 110, 111, 112, 113, 114, 115, 116, 117, 118, 119, 120, 121, 122]⟩ : ByteArray)) (cs := [.string (⟨#[97, 98, 99, 100, 101, 102, 103, 104, 105, 106, 107, 108, 109, 110, 111, 112, 113, 114, 115, 116, 117, 118, 119, 120, 121, 122]⟩ : ByteArray)]) (z := (.string (⟨#[]⟩ : ByteArray))) (v := (.string (⟨#[97, 98, 99, 100, 101, 102, 103, 104, 105, 106, 107, 108, 109, 110, 111, 112, 113, 114, 115, 116, 117, 118, 119, 120, 121, 122]⟩ : ByteArray))) (kt := 3) (et := 9) (t := 207) (x := (.tmp 7)) (y := (.const (.int .i64 1))) (u := (.const (.string (⟨#[97, 98, 99, 100, 101, 102, 103, 104, 105, 106, 107, 108, 109, 110, 111, 112, 113, 114, 115, 116, 117, 118, 119, 120, 121, 122]⟩ : ByteArray)))) kr (ev (.map (some b2))) (ev (.int .i64 1)) (ev (.string (⟨#[97, 98, 99, 100, 101, 102, 103, 104, 105, 106, 107, 108, 109, 110, 111, 112, 113, 114, 115, 116, 117, 118, 119, 120, 121, 122]⟩ : ByteArray))) kr (keyInt kr) st (MapQ.new (fun n : Int => Value.int .i64 n) cStr false _ _) rfl rfl hx1 ?_)
 clear st
 intro es1 ck1 w3 st r1
 replace ⟨mp2, hx2, hr⟩ := bindS hr
 refine WO_one rfl (One_insert (ek := (fun n : Int => Value.int .i64 n)) (c := cStr) (agg := false) (k := 2) (yv := (⟨#[48, 49, 50, 51, 52, 53, 54, 55, 56, 57]⟩ : ByteArray)) (cs := [.string (⟨#[48, 49, 50, 51, 52, 53, 54, 55, 56, 57]⟩ : ByteArray)]) (z := (.string (⟨#[]⟩ : ByteArray))) (v := (.string (⟨#[48, 49, 50, 51, 52, 53, 54, 55, 56, 57]⟩ : ByteArray))) (kt := 3) (et := 9) (t := 207) (x := (.tmp 7)) (y := (.const (.int .i64 2))) (u := (.const (.string (⟨#[48, 49, 50, 51, 52, 53, 54, 55, 56, 57]⟩ : ByteArray)))) kr (ev (.map (some b2))) (ev (.int .i64 2)) (ev (.string (⟨#[48, 49, 50, 51, 52, 53, 54, 55, 56, 57]⟩ : ByteArray))) kr (keyInt kr) st r1 rfl rfl hx2 ?_)
 clear st
 intro es2 ck2 w4 st r2
 replace ⟨mp3, hx3, hr⟩ := bindS hr
 refine WO_one rfl (One_insert (ek := (fun n : Int => Value.int .i64 n)) (c := cStr) (agg := false) (k := 3) (yv := (⟨#[95]⟩ : ByteArray)) (cs := [.string (⟨#[95]⟩ : ByteArray)]) (z := (.string (⟨#[]⟩ : ByteArray))) (v := (.string (⟨#[95]⟩ : ByteArray))) (kt := 3) (et := 9) (t := 207) (x := (.tmp 7)) (y := (.const (.int .i64 3))) (u := (.const (.string (⟨#[95]⟩ : ByteArray)))) kr (ev (.map (some b2))) (ev (.int .i64 3)) (ev (.string (⟨#[95]⟩ : ByteArray))) kr (keyInt kr) st r2 rfl rfl hx3 ?_)
 clear st
 intro es3 ck3 w5 st r3
 replace ⟨mp4, hx4, hr⟩ := bindS hr
 refine WO_one rfl (One_insert (ek := (fun n : Int => Value.int .i64 n)) (c := cStr) (agg := false) (k := 4) (yv := (⟨#[46]⟩ : ByteArray)) (cs := [.string (⟨#[46]⟩ : ByteArray)]) (z := (.string (⟨#[]⟩ : ByteArray))) (v := (.string (⟨#[46]⟩ : ByteArray))) (kt := 3) (et := 9) (t := 207) (x := (.tmp 7)) (y := (.const (.int .i64 4))) (u := (.const (.string (⟨#[46]⟩ : ByteArray)))) kr (ev (.map (some b2))) (ev (.int .i64 4)) (ev (.string (⟨#[46]⟩ : ByteArray))) kr (keyInt kr) st r3 rfl rfl hx4 ?_)
 clear st
 intro es4 ck4 w6 st r4
 replace ⟨mp5, hx5, hr⟩ := bindS hr
 refine WO_one rfl (One_insert (ek := (fun n : Int => Value.int .i64 n)) (c := cStr) (agg := false) (k := 5) (yv := (⟨#[9, 10, 13, 32]⟩ : ByteArray)) (cs := [.string (⟨#[9, 10, 13, 32]⟩ : ByteArray)]) (z := (.string (⟨#[]⟩ : ByteArray))) (v := (.string (⟨#[9, 10, 13, 32]⟩ : ByteArray))) (kt := 3) (et := 9) (t := 207) (x := (.tmp 7)) (y := (.const (.int .i64 5))) (u := (.const (.string (⟨#[9, 10, 13, 32]⟩ : ByteArray)))) kr (ev (.map (some b2))) (ev (.int .i64 5)) (ev (.string (⟨#[9, 10, 13, 32]⟩ : ByteArray))) kr (keyInt kr) st r4 rfl rfl hx5 ?_)
 clear st
 intro es5 ck5 w7 st r5
 replace ⟨mp6, hx6, hr⟩ := bindS hr
 refine WO_one rfl (One_insert (ek := (fun n : Int => Value.int .i64 n)) (c := cStr) (agg := false) (k := 6) (yv := (⟨#[35]⟩ : ByteArray)) (cs := [.string (⟨#[35]⟩ : ByteArray)]) (z := (.string (⟨#[]⟩ : ByteArray))) (v := (.string (⟨#[35]⟩ : ByteArray))) (kt := 3) (et := 9) (t := 207) (x := (.tmp 7)) (y := (.const (.int .i64 6))) (u := (.const (.string (⟨#[35]⟩ : ByteArray)))) kr (ev (.map (some b2))) (ev (.int .i64 6)) (ev (.string (⟨#[35]⟩ : ByteArray))) kr (keyInt kr) st r5 rfl rfl hx6 ?_)
 clear st
 intro es6 ck6 w8 st r6
 replace ⟨mp7, hx7, hr⟩ := bindS hr
 refine WO_one rfl (One_insert (ek := (fun n : Int => Value.int .i64 n)) (c := cStr) (agg := false) (k := 7) (yv := (⟨#[34]⟩ : ByteArray)) (cs := [.string (⟨#[34]⟩ : ByteArray)]) (z := (.string (⟨#[]⟩ : ByteArray))) (v := (.string (⟨#[34]⟩ : ByteArray))) (kt := 3) (et := 9) (t := 207) (x := (.tmp 7)) (y := (.const (.int .i64 7))) (u := (.const (.string (⟨#[34]⟩ : ByteArray)))) kr (ev (.map (some b2))) (ev (.int .i64 7)) (ev (.string (⟨#[34]⟩ : ByteArray))) kr (keyInt kr) st r6 rfl rfl hx7 ?_)
 clear st
 intro es7 ck7 w9 st r7
 replace ⟨mp8, hx8, hr⟩ := bindS hr
 refine WO_one rfl (One_insert (ek := (fun n : Int => Value.int .i64 n)) (c := cStr) (agg := false) (k := 8) (yv := (⟨#[59, 44, 40, 41, 43, 45, 42, 47, 37, 60, 61]⟩ : ByteArray)) (cs := [.string (⟨#[59, 44, 40, 41, 43, 45, 42, 47, 37, 60, 61]⟩ : ByteArray)]) (z := (.string (⟨#[]⟩ : ByteArray))) (v := (.string (⟨#[59, 44, 40, 41, 43, 45, 42, 47, 37, 60, 61]⟩ : ByteArray))) (kt := 3) (et := 9) (t := 207) (x := (.tmp 7)) (y := (.const (.int .i64 8))) (u := (.const (.string (⟨#[59, 44, 40, 41, 43, 45, 42, 47, 37, 60, 61]⟩ : ByteArray)))) kr (ev (.map (some b2))) (ev (.int .i64 8)) (ev (.string (⟨#[59, 44, 40, 41, 43, 45, 42, 47, 37, 60, 61]⟩ : ByteArray))) kr (keyInt kr) st r7 rfl rfl hx8 ?_)
 clear st
 intro es8 ck8 w10 st r8
 refine WO_seg 1 [(8, .map (some b2))] kr kr ?_
 refine WO_one rfl (One_range (ek := (fun n : Int => Value.int .i64 n)) (c := cStr) (agg := false) (d := 9) (t := 207) (kt := 3) (et := 9) (x := (.tmp 8)) kr rfl (ev (.map (some b2))) kr st r8 ?_)
 clear st
 intro b3 w11 st hi1
 refine WO_et rfl (W_block ?_)
 replace ⟨out1, hr, hrKu1⟩ := bindS hr
 refine W_cut (.exit 0) (fun L' w' => ∃ (o1 : (Option (List (Int × Int)))) (es9 : Array MapEntry) (ck9 : Nat) (sn1 : Array Nat) (rem1 : List (Int × ByteArray)) (m1 : Mem), o1 = out1 ∧ L' = [(1, .map (some b1))] ∧ m.le m1 ∧ St m1 (mpiece (some b2) es8 ck8 :: mpiece (some b1) es9 ck9 :: itpiece b3 (some b2) ck8 sn1 :: own) w' ∧ MapQ (fun n : Int => Value.int .i64 n) cStr false m1 (some b2) es8 ck8 mp8 ∧ MapQ (fun n : Int => Value.int .u8 n) (cInt .i64) false m1 (some b1) es9 ck9 o1 ∧ ItR (fun n : Int => Value.int .i64 n) cStr false m1 es8 sn1 rem1) ?_ ?_
 ·clear hr st
  rintro _ w12 ⟨o1, es9, ck9, sn1, rem1, m1, rfl, rfl, hm, st, r8, r9, hi2⟩
  have hr := hrKu1
  clear hrKu1
  refine X_block_eq ?_
  refine X_then ?_
  refine W_sr (WO_seg 2 [(0, .map (some b1))] kr kr ?_)
  refine WO_end rfl ?_
  have st := st.front2
  have st := st.tail
  refine X_then ?_
  refine W_ret ?_
  obtain rfl := Option.some.inj hr
  refine X_ret [.tmp 0] [.map (some b1)] rfl (ResAll.cons (ResAt.tmp kr) ResAll.nil) ?_
  have st := st.tail
  exact ⟨(some b1), es9, ck9, m1, rfl, hm, st, r9⟩
 intro K0_u1
 clear hrKu1
 have st := st.front2.front2
 refine W_env _ kr (W_loop (fun k1 L' w' => ∃ (s1 : (Option (List (Int × Int)))) (es10 : Array MapEntry) (ck10 : Nat) (sn2 : Array Nat) (rem2 : List (Int × ByteArray)) (m2 : Mem), LoopE (lexer_kinds_L1 N) rem2 s1 out1 k1 ∧ L' = [(1, .map (some b1)), (9, .pointer (some ⟨b3, 0, none⟩))] ∧ m.le m2 ∧ St m2 (mpiece (some b2) es8 ck8 :: mpiece (some b1) es10 ck10 :: itpiece b3 (some b2) ck8 sn2 :: own) w' ∧ MapQ (fun n : Int => Value.int .i64 n) cStr false m2 (some b2) es8 ck8 mp8 ∧ MapQ (fun n : Int => Value.int .u8 n) (cInt .i64) false m2 (some b1) es10 ck10 s1 ∧ ItR (fun n : Int => Value.int .i64 n) cStr false m2 es8 sn2 rem2) (List.length (Option.getD mp8 []) + 1) ⟨(some [] : Option (List (Int × Int))), #[], 0, #[], (Option.getD mp8 []), m, LoopE.start hr, rfl, hm, st, r8, (MapQ.new (fun n : Int => Value.int .u8 n) (cInt .i64) false _ _), hi1⟩ ?_)
 clear st hr
 rintro k1 _ w13 ⟨s1, es10, ck10, sn2, rem2, m2, hL, rfl, hm, st, r8, r10, hi3⟩
 rcases k1 with _ | k1
 ·exact LoopE.zero hL
 ·refine W_sr ?_
  have st := st.front2
  refine WO_one rfl (One_next (ek := (fun n : Int => Value.int .i64 n)) (c := cStr) (agg := false) (d := 10) (x := (.tmp 9)) kr rfl (ev (.pointer (some ⟨b3, 0, none⟩))) st r8 hi3 ?_ ?_)
  ·intro hx9 w14 st
   obtain ⟨qu1, hr, hSu1, hBu1⟩ := hL.nil hx9
   clear hL
   unfold lexer_kinds_L1 at hr
   dsimp only at hr
   refine WO_seg 1 [(11, .bool false)] kr kr ?_
   refine WO_et rfl (W_seq ?_)
   refine W_cond false kr (fun h => Bool.noConfusion h) ?_
   intro _
   refine W_exit ?_
   refine X_then_exit ?_
   obtain rfl := Option.some.inj hr
   have ho := hBu1 _ rfl
   have st := st.front2.front2
   refine X_then_exit ?_
   exact X_env _ kr (K0_u1 _ _ ⟨s1, es10, ck10, sn2, rem2, m2, ho, rfl, hm, st, r8, r10, hi3⟩)
  ·rintro kv1 rem3 sn3 cs1 w15 hx10 rfl st hi4 he1
   obtain ⟨qu1, hr, hSu1, hBu1⟩ := hL.cons hx10
   clear hL
   unfold lexer_kinds_L1 at hr
   dsimp only at hr
   refine WO_seg 1 [(11, .bool true)] kr kr ?_
   refine WO_et rfl (W_seq ?_)
   refine W_cond true kr ?_ (fun h => Bool.noConfusion h)
   intro _
   refine W_skip ?_
   refine X_then ?_
   refine W_block ?_
   refine W_sr ?_
   have st := st.front1.front1
   refine WO_one rfl (One_entry (ek := (fun n : Int => Value.int .i64 n)) (c := cStr) (agg := false) (d := 12) (x := (.tmp 9)) (K := .int .i64 kv1.1) (V := .string kv1.2) kr rfl (ev (.pointer (some ⟨b3, 0, none⟩))) st r8 he1 ?_)
   refine WO_seg 4 [(2, .int .i64 kv1.1), (3, .string kv1.2)] kr kr ?_
   refine WO_et rfl (W_sr ?_)
   refine WO_seg 1 [(15, .string kv1.2)] kr kr ?_
   replace ⟨l1, hx11, hr⟩ := bindS hr
   refine WO_one rfl (One_strBytes (d := 16) (t1 := 9) (t2 := 190) (e := 5) (x := (.tmp 15)) kr rfl (ev (.string kv1.2)) kr kr st hx11 ?_)
   clear st
   intro b4 c1 m3 w16 hle1 st r11
   have hm := Mem.le_trans hm hle1
   have hi4 := hi4.mono hle1
   have r8 := r8.mono hle1
   have r10 := r10.mono hle1
   refine WO_seg 2 [(17, .int .i64 (List.length l1 : Int)), (18, .int .i64 0)] kr kr ?_
   refine WO_et rfl (W_block ?_)
   replace ⟨out2, hr, hrKu2⟩ := bindS hr
   refine W_cut (.exit 2) (fun L' w' => ∃ (o2 : (Option (List (Int × Int)))) (es11 : Array MapEntry) (ck11 : Nat) (m4 : Mem), o2 = out2 ∧ L' = [(1, .map (some b1)), (9, .pointer (some ⟨b3, 0, none⟩))] ∧ m.le m4 ∧ St m4 (mpiece (some b2) es8 ck8 :: mpiece (some b1) es11 ck11 :: itpiece b3 (some b2) ck8 sn3 :: own) w' ∧ MapQ (fun n : Int => Value.int .i64 n) cStr false m4 (some b2) es8 ck8 mp8 ∧ MapQ (fun n : Int => Value.int .u8 n) (cInt .i64) false m4 (some b1) es11 ck11 o2 ∧ ItR (fun n : Int => Value.int .i64 n) cStr false m4 es8 sn3 rem3) ?_ ?_
   ·clear hr st
    rintro _ w17 ⟨o2, es11, ck11, m4, rfl, rfl, hm, st, r8, r12, hi4⟩
    have hr := hrKu2
    clear hrKu2
    refine X_block_eq ?_
    refine X_block ?_
    obtain rfl := Option.some.inj hr
    have hL := hSu1 _ rfl
    have st := st.front2.front2.front2
    exact X_env _ kr (X_round k1 (Nat.lt_succ_self _) ⟨o2, es11, ck11, sn3, rem3, m4, hL, rfl, hm, st, r8, r12, hi4⟩)
   intro K2_u2
   clear hrKu2
   have st := st.front2.front2
   refine W_env _ kr (W_loop (fun k2 L' w' => ∃ (s2 : Int × (Option (List (Int × Int)))) (es12 : Array MapEntry) (ck12 : Nat) (m5 : Mem), loopM (lexer_kinds_L2 N kv1 l1) k2 s2 = some out2 ∧ L' = [(1, .map (some b1)), (2, .int .i64 kv1.1), (9, .pointer (some ⟨b3, 0, none⟩)), (16, .slice (some ⟨b4, 0, none⟩) (List.length l1) c1), (17, .int .i64 (List.length l1 : Int)), (18, .int .i64 s2.1)] ∧ m.le m5 ∧ St m5 (mpiece (some b2) es8 ck8 :: mpiece (some b1) es12 ck12 :: itpiece b3 (some b2) ck8 sn3 :: own) w' ∧ RepS cU8 m5 (some ⟨b4, 0, none⟩) c1 l1 ∧ MapQ (fun n : Int => Value.int .i64 n) cStr false m5 (some b2) es8 ck8 mp8 ∧ MapQ (fun n : Int => Value.int .u8 n) (cInt .i64) false m5 (some b1) es12 ck12 s2.2 ∧ ItR (fun n : Int => Value.int .i64 n) cStr false m5 es8 sn3 rem3) N ⟨(0, s1), es10, ck10, m3, hr, rfl, hm, st, r11, r8, r10, hi4⟩ ?_)
   clear st hr
   rintro k2 _ w18 ⟨s2, es12, ck12, m5, hL, rfl, hm, st, r11, r8, r13, hi4⟩
   rcases k2 with _ | k2
   ·exact loopM_zero hL
   ·obtain ⟨qu2, hr, hSu2, hBu2⟩ := loopM_succ hL
    clear hL
    unfold lexer_kinds_L2 at hr
    refine W_sr (WO_seg 1 [(19, .bool (decide (s2.1 < (List.length l1 : Int))))] kr kr ?_)
    refine WO_et rfl (W_seq ?_)
    refine W_cond (decide (s2.1 < (List.length l1 : Int))) kr ?_ ?_
    ·intro hc
     rw [if_pos hc] at hr
     refine W_skip ?_
     refine X_then ?_
     refine W_seq ?_
     refine W_block ?_
     refine W_sr ?_
     replace ⟨x1, hx12, hr⟩ := bindS hr
     refine WO_one rfl (One_index (d := 20) (t := 190) (e := 5) (x := (.tmp 16)) (y := (.tmp 18)) cU8 kr rfl (ev (.slice (some ⟨b4, 0, none⟩) (List.length l1) c1)) (ev (.int .i64 s2.1)) kr r11 hx12 ?_)
     rintro b5 f1 cs2 rfl hq1
     refine WO_one rfl (One_load_row (d := 21) (t := 5) (x := (.tmp 20)) (.int .u8 (x1.toNat : Int)) kr rfl (ev (.pointer (some ⟨b5, f1, none⟩))) st hq1 kr ?_)
     refine WO_seg 1 [(5, .int .u8 (x1.toNat : Int))] kr kr ?_
     refine WO_et rfl (W_region ?_)
     refine WO_seg 3 [(22, .map (some b1)), (23, .int .u8 (x1.toNat : Int)), (24, .int .i64 kv1.1)] kr kr ?_
     have st := st.front1
     replace ⟨mp9, hx13, hr⟩ := bindS hr
     refine WO_one rfl (One_mapUpdate (ek := (fun n : Int => Value.int .u8 n)) (c := (cInt .i64)) (agg := false) (k := (x1.toNat : Int)) (yv := kv1.1) (cs := [.int .i64 kv1.1]) (z := (.int .i64 0)) (v := (.int .i64 kv1.1)) (kt := 5) (et := 3) (t := 164) (x := (.tmp 22)) (y := (.tmp 23)) (u := (.tmp 24)) kr (ev (.map (some b1))) (ev (.int .u8 (x1.toNat : Int))) (ev (.int .i64 kv1.1)) kr (keyInt kr) st r13 rfl rfl hx13 ?_)
     clear st
     intro es13 ck13 w19 st r14
     refine WO_end rfl ?_
     refine X_block ?_
     refine X_then ?_
     refine W_region ?_
     refine WO_seg 2 [(18, .int .i64 (IntKind.wrap .i64 (s2.1 + 1)))] kr kr ?_
     refine WO_end rfl ?_
     obtain rfl := Option.some.inj hr
     have hL := hSu2 _ rfl
     have st := st.front2.front1.front2
     exact X_env _ kr (X_round k2 (Nat.lt_succ_self _) ⟨(IntKind.wrap .i64 (s2.1 + 1), mp9), es13, ck13, m5, hL, rfl, hm, st, r11, r8, r14, hi4⟩)
    ·intro hc
     rw [if_neg (not_true hc)] at hr
     refine W_exit ?_
     refine X_then_exit ?_
     obtain rfl := Option.some.inj hr
     have ho := hBu2 _ rfl
     have st := st.front2.front2.front2
     refine X_then_exit ?_
     exact X_env _ kr (K2_u2 _ _ ⟨s2.2, es12, ck12, m5, ho, rfl, hm, st, r8, r13, hi4⟩)
def lexer_span_L2 (N : Nat) (p0 : ByteArray) (p2 : Option (List (Int × Int))) (p3 : List Int) (s1 : Int) (s2 : Bool × Int) : Option ((Bool × Int) ⊕ ((Bool))) :=
 if (decide (s2.2 < (List.length p3 : Int))) = true then ((idx p3 s2.2).bind fun x1 => (if s2.1 = true then (some true) else ((idxB p0 s1).bind fun x2 => some (((mgetQ p2 (x2.toNat : Int)).getD 0) == x1)) : Option (Bool)).bind fun o3 => some (.inl (o3, IntKind.wrap .i64 (s2.2 + 1)))) else (some (.inr s2.1))
def lexer_span_L1 (N : Nat) (p0 : ByteArray) (p2 : Option (List (Int × Int))) (p3 : List Int) (s1 : Int) : Option ((Int) ⊕ ((Int))) :=
 if (decide (s1 < (ByteArray.size p0 : Int))) = true then ((loopM (lexer_span_L2 N p0 p2 p3 s1) N (false, 0)).bind fun o2 => if (!o2) = true then (some (.inr s1)) else (some (.inl (IntKind.wrap .i64 (s1 + 1))))) else (some (.inr s1))
def lexer_span (N : Nat) (p0 : ByteArray) (p1 : Int) (p2 : Option (List (Int × Int))) (p3 : List Int) : Option (Int) :=
 (loopM (lexer_span_L1 N p0 p2 p3) N p1).bind fun o1 => some o1
set_option maxHeartbeats 4000000 in
set_option maxRecDepth 100000 in
theorem lexer_span_ok {N : Nat} {m : Mem} {own : List Piece} {w : World} {p0 : ByteArray} {p1 : Int} {p2 : Option (List (Int × Int))} {p3 : List Int} {q1 : Option Nat} {es1 : Array MapEntry} {ck1 : Nat} {a1 : Option Addr} {c1 : Nat} {r : Int} (st : St m (mpiece q1 es1 ck1 :: own) w) (r1 : MapQ (fun n : Int => Value.int .u8 n) (cInt .i64) false m q1 es1 ck1 p2) (r2 : RepS (cInt .i64) m a1 c1 p3) (hr : lexer_span N p0 p1 p2 p3 = some r) : Calls Tryz.prog 122 #[.string p0, .int .i64 p1, .map q1, .slice a1 (List.length p3) c1] w fun e w' => ∃ (m' : Mem), e = .returned (.int .i64 r) ∧ m.le m' ∧ St m' (mpiece q1 es1 ck1 :: own) w' := by
 unfold lexer_span at hr
 have hm := m.le_refl
 refine W_calls Tryz.func122 rfl Tryz.ntmps122 [(0, .string p0), (1, .int .i64 p1), (2, .map q1), (3, .slice a1 (List.length p3) c1)] kr rfl ?_
 refine W_sr (WO_seg 1 [] kr kr ?_)
 refine WO_et rfl (W_seq ?_)
 refine W_block ?_
 replace ⟨out1, hr, hrKu1⟩ := bindS hr
 refine W_cut (.exit 0) (fun L' w' => ∃ (o1 : Int) (m1 : Mem), o1 = out1 ∧ L' = [(1, .int .i64 o1)] ∧ m.le m1 ∧ St m1 (mpiece q1 es1 ck1 :: own) w' ∧ MapQ (fun n : Int => Value.int .u8 n) (cInt .i64) false m1 q1 es1 ck1 p2) ?_ ?_
 ·clear hr st
  rintro _ w1 ⟨o1, m1, rfl, rfl, hm, st, r1⟩
  have hr := hrKu1
  clear hrKu1
  refine X_block_eq ?_
  refine X_then ?_
  refine W_sr (WO_seg 2 [(8, .int .i64 o1)] kr kr ?_)
  refine WO_et rfl (W_ret ?_)
  obtain rfl := Option.some.inj hr
  refine X_ret [.tmp 8] [.int .i64 o1] rfl (ResAll.cons (ResAt.tmp kr) ResAll.nil) ?_
  exact ⟨m1, rfl, hm, st⟩
 intro K0_u1
 clear hrKu1
 refine W_env _ kr (W_loop (fun k1 L' w' => ∃ (s1 : Int) (m2 : Mem), loopM (lexer_span_L1 N p0 p2 p3) k1 s1 = some out1 ∧ L' = [(0, .string p0), (1, .int .i64 s1), (2, .map q1), (3, .slice a1 (List.length p3) c1)] ∧ m.le m2 ∧ St m2 (mpiece q1 es1 ck1 :: own) w' ∧ RepS (cInt .i64) m2 a1 c1 p3 ∧ MapQ (fun n : Int => Value.int .u8 n) (cInt .i64) false m2 q1 es1 ck1 p2) N ⟨p1, m, hr, rfl, hm, st, r2, r1⟩ ?_)
 clear st hr
 rintro k1 _ w2 ⟨s1, m2, hL, rfl, hm, st, r2, r1⟩
 rcases k1 with _ | k1
 ·exact loopM_zero hL
 ·obtain ⟨qu1, hr, hSu1, hBu1⟩ := loopM_succ hL
  clear hL
  unfold lexer_span_L1 at hr
  refine W_seq ?_
  refine W_sr (WO_seg 4 [(15, .bool (decide (s1 < (ByteArray.size p0 : Int))))] kr kr ?_)
  refine WO_et rfl (W_cond (decide (s1 < (ByteArray.size p0 : Int))) kr ?_ ?_)
  ·intro hc
   rw [if_pos hc] at hr
   refine W_skip ?_
   refine X_then ?_
   refine W_block ?_
   refine W_sr (WO_seg 1 [(9, .bool false)] kr kr ?_)
   refine WO_et rfl (W_seq ?_)
   refine W_sr (WO_seg 3 [(16, .slice a1 (List.length p3) c1), (17, .int .i64 (List.length p3 : Int)), (18, .int .i64 0)] kr kr ?_)
   refine WO_et rfl (W_block ?_)
   replace ⟨out2, hr, hrKu2⟩ := bindS hr
   refine W_cut (.exit 2) (fun L' w' => ∃ (o2 : Bool) (m3 : Mem), o2 = out2 ∧ L' = [(0, .string p0), (1, .int .i64 s1), (2, .map q1), (3, .slice a1 (List.length p3) c1), (9, .bool o2)] ∧ m.le m3 ∧ St m3 (mpiece q1 es1 ck1 :: own) w' ∧ RepS (cInt .i64) m3 a1 c1 p3 ∧ MapQ (fun n : Int => Value.int .u8 n) (cInt .i64) false m3 q1 es1 ck1 p2) ?_ ?_
   ·clear hr st
    rintro _ w3 ⟨o2, m3, rfl, rfl, hm, st, r2, r1⟩
    have hr := hrKu2
    clear hrKu2
    refine X_block_eq ?_
    refine X_then ?_
    refine W_seq ?_
    refine W_sr (WO_seg 2 [(34, .bool (!o2))] kr kr ?_)
    refine WO_et rfl (W_cond (!o2) kr ?_ ?_)
    ·intro hc
     rw [if_pos hc] at hr
     refine W_exit ?_
     refine X_then_exit ?_
     refine X_block_ne rfl ?_
     obtain rfl := Option.some.inj hr
     have ho := hBu1 _ rfl
     refine X_then_exit ?_
     exact X_env _ kr (K0_u1 _ _ ⟨s1, m3, ho, rfl, hm, st, r1⟩)
    ·intro hc
     rw [if_neg (not_true hc)] at hr
     refine W_skip ?_
     refine X_then ?_
     refine W_region ?_
     refine WO_seg 3 [(1, .int .i64 (IntKind.wrap .i64 (s1 + 1)))] kr kr ?_
     refine WO_end rfl ?_
     refine X_block ?_
     obtain rfl := Option.some.inj hr
     have hL := hSu1 _ rfl
     exact X_env _ kr (X_round k1 (Nat.lt_succ_self _) ⟨IntKind.wrap .i64 (s1 + 1), m3, hL, rfl, hm, st, r2, r1⟩)
   intro K2_u2
   clear hrKu2
   refine W_env _ kr (W_loop (fun k2 L' w' => ∃ (s2 : Bool × Int) (m4 : Mem), loopM (lexer_span_L2 N p0 p2 p3 s1) k2 s2 = some out2 ∧ L' = [(0, .string p0), (1, .int .i64 s1), (2, .map q1), (3, .slice a1 (List.length p3) c1), (9, .bool s2.1), (16, .slice a1 (List.length p3) c1), (17, .int .i64 (List.length p3 : Int)), (18, .int .i64 s2.2)] ∧ m.le m4 ∧ St m4 (mpiece q1 es1 ck1 :: own) w' ∧ RepS (cInt .i64) m4 a1 c1 p3 ∧ MapQ (fun n : Int => Value.int .u8 n) (cInt .i64) false m4 q1 es1 ck1 p2) N ⟨(false, 0), m2, hr, rfl, hm, st, r2, r1⟩ ?_)
   clear st hr
   rintro k2 _ w4 ⟨s2, m4, hL, rfl, hm, st, r2, r1⟩
   rcases k2 with _ | k2
   ·exact loopM_zero hL
   ·obtain ⟨qu2, hr, hSu2, hBu2⟩ := loopM_succ hL
    clear hL
    unfold lexer_span_L2 at hr
    refine W_sr (WO_seg 1 [(19, .bool (decide (s2.2 < (List.length p3 : Int))))] kr kr ?_)
    refine WO_et rfl (W_seq ?_)
    refine W_cond (decide (s2.2 < (List.length p3 : Int))) kr ?_ ?_
    ·intro hc
     rw [if_pos hc] at hr
     refine W_skip ?_
     refine X_then ?_
     refine W_seq ?_
     refine W_block ?_
     refine W_sr ?_
     replace ⟨x1, hx1, hr⟩ := bindS hr
     refine WO_one rfl (One_index (d := 20) (t := 22) (e := 3) (x := (.tmp 16)) (y := (.tmp 18)) (cInt .i64) kr rfl (ev (.slice a1 (List.length p3) c1)) (ev (.int .i64 s2.2)) kr r2 hx1 ?_)
     rintro b1 f1 cs1 rfl hq1
     refine WO_one rfl (One_load_row (d := 21) (t := 3) (x := (.tmp 20)) (.int .i64 x1) kr rfl (ev (.pointer (some ⟨b1, f1, none⟩))) st hq1 kr ?_)
     refine WO_seg 1 [(11, .int .i64 x1)] kr kr ?_
     refine WO_et rfl (W_region ?_)
     replace ⟨o3, hr, hrK⟩ := bindS hr
     refine WO_cut (j := 11) (fun L' w' => ∃ (m5 : Mem), L' = [(0, .string p0), (1, .int .i64 s1), (2, .map q1), (3, .slice a1 (List.length p3) c1), (9, .bool o3), (16, .slice a1 (List.length p3) c1), (17, .int .i64 (List.length p3 : Int)), (18, .int .i64 s2.2)] ∧ m.le m5 ∧ St m5 (mpiece q1 es1 ck1 :: own) w' ∧ RepS (cInt .i64) m5 a1 c1 p3 ∧ MapQ (fun n : Int => Value.int .u8 n) (cInt .i64) false m5 q1 es1 ck1 p2) ?_ ?_
     ·clear hr st
      have hr := hrK
      clear hrK
      rintro _ w5 ⟨m5, rfl, hm, st, r2, r1⟩
      refine WO_end rfl ?_
      refine X_block ?_
      refine X_then ?_
      refine W_region ?_
      refine WO_seg 2 [(18, .int .i64 (IntKind.wrap .i64 (s2.2 + 1)))] kr kr ?_
      refine WO_end rfl ?_
      obtain rfl := Option.some.inj hr
      have hL := hSu2 _ rfl
      exact X_env _ kr (X_round k2 (Nat.lt_succ_self _) ⟨(o3, IntKind.wrap .i64 (s2.2 + 1)), m5, hL, rfl, hm, st, r2, r1⟩)
     ·intro K
      clear hrK
      refine WO_seg 2 [(23, .bool s2.1)] kr kr ?_
      rcases bcases s2.1 with hc | hc
      ·rw [if_pos hc] at hr
       refine WO_fact (t := 23) (b := true) s2.1 kr hc ?_
       refine WO_seg 9 [(9, .bool true)] kr kr ?_
       obtain rfl := Option.some.inj hr
       exact WO_env _ kr (K _ _ ⟨m4, rfl, hm, st, r2, r1⟩)
      ·rw [if_neg (not_true hc)] at hr
       refine WO_fact (t := 23) (b := false) s2.1 kr hc ?_
       refine WO_seg 3 [(24, .map q1), (25, .string p0), (26, .int .i64 s1)] kr kr ?_
       replace ⟨x2, hx2, hr⟩ := bindS hr
       refine WO_one rfl (One_strIndex (d := 27) (t := 9) (x := (.tmp 25)) (y := (.tmp 26)) kr rfl (ev (.string p0)) (ev (.int .i64 s1)) kr hx2 ?_)
       refine WO_one rfl (One_lookup (ek := (fun n : Int => Value.int .u8 n)) (c := (cInt .i64)) (agg := false) (k := (x2.toNat : Int)) (zx := 0) (zcs := [.int .i64 0]) (z := (.int .i64 0)) (kt := 5) (et := 3) (d := 28) (t := 164) (x := (.tmp 24)) (y := (.tmp 27)) (ok := false) kr rfl (ev (.map q1)) (ev (.int .u8 (x2.toNat : Int))) kr (keyInt kr) st.head r1 rfl rfl ?_)
       rintro cs2 rfl
       refine WO_seg 4 [(9, .bool (((mgetQ p2 (x2.toNat : Int)).getD 0) == x1))] kr kr ?_
       obtain rfl := Option.some.inj hr
       exact WO_env _ kr (K _ _ ⟨m4, rfl, hm, st, r2, r1⟩)
    ·intro hc
     rw [if_neg (not_true hc)] at hr
     refine W_exit ?_
     refine X_then_exit ?_
     obtain rfl := Option.some.inj hr
     have ho := hBu2 _ rfl
     refine X_then_exit ?_
     exact X_env _ kr (K2_u2 _ _ ⟨s2.1, m4, ho, rfl, hm, st, r2, r1⟩)
  ·intro hc
   rw [if_neg (not_true hc)] at hr
   refine W_exit ?_
   refine X_then_exit ?_
   obtain rfl := Option.some.inj hr
   have ho := hBu1 _ rfl
   refine X_then_exit ?_
   exact X_env _ kr (K0_u1 _ _ ⟨s1, m2, ho, rfl, hm, st, r1⟩)
def lexer_Path_L1 (N : Nat) (y1 : List ByteArray) (y2 : Option (List (Int × Int))) (s1 : Int) : Option ((Int) ⊕ ((Unit) ⊕ (Bool))) :=
 if (decide (s1 < (List.length y1 : Int))) = true then ((idx y1 s1).bind fun x1 => (if (decide ((ByteArray.size x1 : Int) < 1)) = true then (some true) else (if (decide ((ByteArray.size x1 : Int) > 24)) = true then (some true) else ((lexer_span N x1 0 y2 ([1, 2, 3, 4])).bind fun y3 => some (y3 != (ByteArray.size x1 : Int)))) : Option (Bool)).bind fun o3 => if o3 = true then (some (.inr (.inr (false)))) else (some (.inl (IntKind.wrap .i64 (s1 + 1))))) else (some (.inr (.inl ())))
def lexer_Path (N : Nat) (p0 : ByteArray) : Option (Bool) :=
 (strings_Split N p0 (⟨#[47]⟩ : ByteArray)).bind fun y1 => (if (decide ((ByteArray.size p0 : Int) > 80)) = true then (some true) else (some (decide ((List.length y1 : Int) > 8))) : Option (Bool)).bind fun o1 => if o1 = true then (some false) else ((lexer_kinds N).bind fun y2 => (loopM (lexer_Path_L1 N y1 y2) N 0).bind fun out1 => (match out1 with | .inl o2 => some true | .inr (z) => some z))
set_option maxHeartbeats 4000000 in
set_option maxRecDepth 100000 in
theorem lexer_Path_ok {N : Nat} {m : Mem} {own : List Piece} {w : World} {p0 : ByteArray} {r : Bool} (st : St m (own) w) (hr : lexer_Path N p0 = some r) : Calls Tryz.prog 70 #[.string p0] w fun e w' => ∃ (m' : Mem), e = .returned (.bool r) ∧ m.le m' ∧ St m' (own) w' := by
 unfold lexer_Path at hr
 have hm := m.le_refl
 refine W_calls Tryz.func70 rfl Tryz.ntmps70 [(0, .string p0)] kr rfl ?_
 refine W_sr (WO_seg 1 [] kr kr ?_)
 refine WO_et rfl (W_sr ?_)
 refine WO_seg 1 [(7, .string p0)] kr kr ?_
 replace ⟨y1, hx1, hr⟩ := bindS hr
 refine WO_one rfl (One_fn 8 128 #[.string p0, .string (⟨#[47]⟩ : ByteArray)] kr rfl ?_)
 refine (strings_Split_ok st hx1).mono ?_
 clear st
 rintro _ w1 ⟨a1, c1, m1, rfl, hle1, st, r1⟩
 refine ⟨_, rfl, ?_⟩
 have hm := Mem.le_trans hm hle1
 refine WO_seg 1 [(3, .slice a1 (List.length y1) c1)] kr kr ?_
 refine WO_et rfl (W_seq ?_)
 refine W_sr ?_
 replace ⟨o1, hr, hrK⟩ := bindS hr
 refine WO_cut (j := 8) (fun L' w' => ∃ (m2 : Mem), L' = [(3, .slice a1 (List.length y1) c1), (16, .bool o1)] ∧ m.le m2 ∧ St m2 (own) w' ∧ RepS cStr m2 a1 c1 y1) ?_ ?_
 ·clear hr st
  have hr := hrK
  clear hrK
  rintro _ w2 ⟨m2, rfl, hm, st, r1⟩
  refine WO_et rfl (W_cond o1 kr ?_ ?_)
  ·intro hc
   rw [if_pos hc] at hr
   refine W_sr (WO_seg 1 [(2, .bool false)] kr kr ?_)
   refine WO_et rfl (W_ret ?_)
   refine X_then_ret ?_
   obtain rfl := Option.some.inj hr
   refine X_ret [.tmp 2] [.bool false] rfl (ResAll.cons (ResAt.tmp kr) ResAll.nil) ?_
   exact ⟨m2, rfl, hm, st⟩
  ·intro hc
   rw [if_neg (not_true hc)] at hr
   refine W_skip ?_
   refine X_then ?_
   refine W_sr ?_
   replace ⟨y2, hx2, hr⟩ := bindS hr
   refine WO_one rfl (One_fn 17 121 #[] kr rfl ?_)
   refine (lexer_kinds_ok st hx2).mono ?_
   clear st
   rintro _ w3 ⟨q1, es1, ck1, m3, rfl, hle2, st, r2⟩
   refine ⟨_, rfl, ?_⟩
   have hm := Mem.le_trans hm hle2
   have r1 := r1.mono hle2
   refine WO_seg 1 [(4, .map q1)] kr kr ?_
   refine WO_et rfl (W_seq ?_)
   refine W_sr (WO_seg 3 [(18, .slice a1 (List.length y1) c1), (19, .int .i64 (List.length y1 : Int)), (20, .int .i64 0)] kr kr ?_)
   refine WO_et rfl (W_block ?_)
   replace ⟨out1, hr, hrKu1⟩ := bindS hr
   refine W_cut (.exit 0) (fun L' w' => ∃ (o2 : Unit) (m4 : Mem), (.inl o2) = out1 ∧ L' = [] ∧ m.le m4 ∧ St m4 (mpiece q1 es1 ck1 :: own) w' ∧ MapQ (fun n : Int => Value.int .u8 n) (cInt .i64) false m4 q1 es1 ck1 y2) ?_ ?_
   ·clear hr st
    rintro _ w4 ⟨o2, m4, rfl, rfl, hm, st, r2⟩
    have hr := hrKu1
    clear hrKu1
    dsimp only at hr
    refine X_block_eq ?_
    refine X_then ?_
    refine W_sr (WO_seg 1 [(2, .bool true)] kr kr ?_)
    refine WO_et rfl (W_ret ?_)
    obtain rfl := Option.some.inj hr
    refine X_ret [.tmp 2] [.bool true] rfl (ResAll.cons (ResAt.tmp kr) ResAll.nil) ?_
    have st := st.tail
    exact ⟨m4, rfl, hm, st⟩
   intro K0_u1
   refine W_env _ kr (W_loop (fun k1 L' w' => ∃ (s1 : Int) (m5 : Mem), loopM (lexer_Path_L1 N y1 y2) k1 s1 = some out1 ∧ L' = [(4, .map q1), (18, .slice a1 (List.length y1) c1), (19, .int .i64 (List.length y1 : Int)), (20, .int .i64 s1)] ∧ m.le m5 ∧ St m5 (mpiece q1 es1 ck1 :: own) w' ∧ RepS cStr m5 a1 c1 y1 ∧ MapQ (fun n : Int => Value.int .u8 n) (cInt .i64) false m5 q1 es1 ck1 y2) N ⟨0, m3, hr, rfl, hm, st, r1, r2⟩ ?_)
   clear st hr
   rintro k1 _ w5 ⟨s1, m5, hL, rfl, hm, st, r1, r2⟩
   rcases k1 with _ | k1
   ·exact loopM_zero hL
   ·obtain ⟨qu1, hr, hSu1, hBu1⟩ := loopM_succ hL
    clear hL
    unfold lexer_Path_L1 at hr
    refine W_sr (WO_seg 1 [(21, .bool (decide (s1 < (List.length y1 : Int))))] kr kr ?_)
    refine WO_et rfl (W_seq ?_)
    refine W_cond (decide (s1 < (List.length y1 : Int))) kr ?_ ?_
    ·intro hc
     rw [if_pos hc] at hr
     refine W_skip ?_
     refine X_then ?_
     refine W_seq ?_
     refine W_block ?_
     refine W_sr ?_
     replace ⟨x1, hx3, hr⟩ := bindS hr
     refine WO_one rfl (One_index (d := 22) (t := 33) (e := 9) (x := (.tmp 18)) (y := (.tmp 20)) cStr kr rfl (ev (.slice a1 (List.length y1) c1)) (ev (.int .i64 s1)) kr r1 hx3 ?_)
     rintro b1 f1 cs1 rfl hq1
     refine WO_one rfl (One_load_row (d := 23) (t := 9) (x := (.tmp 22)) (.string x1) kr rfl (ev (.pointer (some ⟨b1, f1, none⟩))) st hq1 kr ?_)
     refine WO_seg 1 [(6, .string x1)] kr kr ?_
     refine WO_et rfl (W_sr ?_)
     replace ⟨o3, hr, hrK⟩ := bindS hr
     refine WO_cut (j := 17) (fun L' w' => ∃ (m6 : Mem), L' = [(4, .map q1), (18, .slice a1 (List.length y1) c1), (19, .int .i64 (List.length y1 : Int)), (20, .int .i64 s1), (40, .bool o3)] ∧ m.le m6 ∧ St m6 (mpiece q1 es1 ck1 :: own) w' ∧ RepS cStr m6 a1 c1 y1 ∧ MapQ (fun n : Int => Value.int .u8 n) (cInt .i64) false m6 q1 es1 ck1 y2) ?_ ?_
     ·clear hr st
      have hr := hrK
      clear hrK
      rintro _ w6 ⟨m6, rfl, hm, st, r1, r2⟩
      refine WO_et rfl (W_cond o3 kr ?_ ?_)
      ·intro hc
       rw [if_pos hc] at hr
       refine W_sr (WO_seg 1 [(2, .bool false)] kr kr ?_)
       refine WO_et rfl (W_ret ?_)
       refine X_block_ret ?_
       refine X_then_ret ?_
       obtain rfl := Option.some.inj hr
       have ho := hBu1 _ rfl
       subst ho
       have hr := hrKu1
       dsimp only at hr
       refine X_then_ret ?_
       refine X_block_ret ?_
       refine X_then_ret ?_
       obtain rfl := Option.some.inj hr
       refine X_ret [.tmp 2] [.bool false] rfl (ResAll.cons (ResAt.tmp kr) ResAll.nil) ?_
       have st := st.tail
       exact ⟨m6, rfl, hm, st⟩
      ·intro hc
       rw [if_neg (not_true hc)] at hr
       refine W_skip ?_
       refine X_block ?_
       refine X_then ?_
       refine W_region ?_
       refine WO_seg 2 [(20, .int .i64 (IntKind.wrap .i64 (s1 + 1)))] kr kr ?_
       refine WO_end rfl ?_
       obtain rfl := Option.some.inj hr
       have hL := hSu1 _ rfl
       exact X_env _ kr (X_round k1 (Nat.lt_succ_self _) ⟨IntKind.wrap .i64 (s1 + 1), m6, hL, rfl, hm, st, r1, r2⟩)
     ·intro K
      clear hrK
      refine WO_seg 4 [(27, .bool (decide ((ByteArray.size x1 : Int) < 1)))] kr kr ?_
      rcases bcases (decide ((ByteArray.size x1 : Int) < 1)) with hc | hc
      ·rw [if_pos hc] at hr
       refine WO_fact (t := 27) (b := true) (decide ((ByteArray.size x1 : Int) < 1)) kr hc ?_
       refine WO_seg 13 [(40, .bool true)] kr kr ?_
       obtain rfl := Option.some.inj hr
       exact WO_env _ kr (K _ _ ⟨m5, rfl, hm, st, r1, r2⟩)
      ·rw [if_neg (not_true hc)] at hr
       refine WO_fact (t := 27) (b := false) (decide ((ByteArray.size x1 : Int) < 1)) kr hc ?_
       refine WO_seg 5 [(32, .bool (decide ((ByteArray.size x1 : Int) > 24)))] kr kr ?_
       rcases bcases (decide ((ByteArray.size x1 : Int) > 24)) with hc | hc
       ·rw [if_pos hc] at hr
        refine WO_fact (t := 32) (b := true) (decide ((ByteArray.size x1 : Int) > 24)) kr hc ?_
        refine WO_seg 8 [(40, .bool true)] kr kr ?_
        obtain rfl := Option.some.inj hr
        exact WO_env _ kr (K _ _ ⟨m5, rfl, hm, st, r1, r2⟩)
       ·rw [if_neg (not_true hc)] at hr
        refine WO_fact (t := 32) (b := false) (decide ((ByteArray.size x1 : Int) > 24)) kr hc ?_
        refine WO_seg 2 [(33, .string x1), (34, .map q1)] kr kr ?_
        refine WO_one rfl (One_buildSlice (d := 35) (t := 22) (e := 3) (len := 4) (parts := #[(0, (.const (.int .i64 1))), (1, (.const (.int .i64 2))), (2, (.const (.int .i64 3))), (3, (.const (.int .i64 4)))]) (cInt .i64) (xs := [1, 2, 3, 4]) [.int .i64 1, .int .i64 2, .int .i64 3, .int .i64 4] kr rfl (fun _ => buildCells_run kr _) rfl rfl st ⟨[.int .i64 1], _, rfl, rfl, ⟨[.int .i64 2], _, rfl, rfl, ⟨[.int .i64 3], _, rfl, rfl, ⟨[.int .i64 4], _, rfl, rfl, rfl⟩⟩⟩⟩ ?_)
        clear st
        intro b2 m7 w7 hle3 st r3
        have hm := Mem.le_trans hm hle3
        have r1 := r1.mono hle3
        have r2 := r2.mono hle3
        have st := st.front1
        replace ⟨y3, hx4, hr⟩ := bindS hr
        refine WO_one rfl (One_fn 36 122 #[.string x1, .int .i64 0, .map q1, .slice (some ⟨b2, 0, none⟩) (List.length ([1, 2, 3, 4])) 4] kr rfl ?_)
        refine (lexer_span_ok st r2 r3 hx4).mono ?_
        clear st
        rintro _ w8 ⟨m8, rfl, hle4, st⟩
        refine ⟨_, rfl, ?_⟩
        have hm := Mem.le_trans hm hle4
        have r1 := r1.mono hle4
        have r3 := r3.mono hle4
        have r2 := r2.mono hle4
        refine WO_seg 4 [(40, .bool (y3 != (ByteArray.size x1 : Int)))] kr kr ?_
        obtain rfl := Option.some.inj hr
        have st := st.front1
        have st := st.tail
        exact WO_env _ kr (K _ _ ⟨m8, rfl, hm, st, r1, r2⟩)
    ·intro hc
     rw [if_neg (not_true hc)] at hr
     refine W_exit ?_
     refine X_then_exit ?_
     obtain rfl := Option.some.inj hr
     have ho := hBu1 _ rfl
     refine X_then_exit ?_
     exact X_env _ kr (K0_u1 _ _ ⟨(), m5, ho, rfl, hm, st, r2⟩)
 ·intro K
  clear hrK
  refine WO_seg 4 [(12, .bool (decide ((ByteArray.size p0 : Int) > 80)))] kr kr ?_
  rcases bcases (decide ((ByteArray.size p0 : Int) > 80)) with hc | hc
  ·rw [if_pos hc] at hr
   refine WO_fact (t := 12) (b := true) (decide ((ByteArray.size p0 : Int) > 80)) kr hc ?_
   refine WO_seg 4 [(16, .bool true)] kr kr ?_
   obtain rfl := Option.some.inj hr
   exact WO_env _ kr (K _ _ ⟨m1, rfl, hm, st, r1⟩)
  ·rw [if_neg (not_true hc)] at hr
   refine WO_fact (t := 12) (b := false) (decide ((ByteArray.size p0 : Int) > 80)) kr hc ?_
   refine WO_seg 4 [(16, .bool (decide ((List.length y1 : Int) > 8)))] kr kr ?_
   obtain rfl := Option.some.inj hr
   exact WO_env _ kr (K _ _ ⟨m1, rfl, hm, st, r1⟩)
def revision_Check_L1 (N : Nat) (p0 : (List (ByteArray × ByteArray))) (s1 : Int) : Option ((Int) ⊕ ((Unit) ⊕ (Int))) :=
 if (decide (s1 < (List.length p0 : Int))) = true then ((idx p0 s1).bind fun x1 => (lexer_Path N x1.1).bind fun y1 => if (!y1) = true then (some (.inr (.inr (6)))) else ((if (decide (s1 > 0)) = true then ((idx p0 (IntKind.wrap .i64 (s1 - 1))).bind fun x2 => some (x1.1.toList == x2.1.toList)) else (some false) : Option (Bool)).bind fun o2 => if o2 = true then (some (.inr (.inr (10)))) else ((if (decide (s1 > 0)) = true then ((idx p0 (IntKind.wrap .i64 (s1 - 1))).bind fun x3 => some (Op.bytesLess x1.1.toList x3.1.toList)) else (some false) : Option (Bool)).bind fun o3 => if o3 = true then (some (.inr (.inr (6)))) else (if (decide ((ByteArray.size x1.2 : Int) > 16384)) = true then (some (.inr (.inr (2)))) else (some (.inl (IntKind.wrap .i64 (s1 + 1)))))))) else (some (.inr (.inl ())))
def revision_Check (N : Nat) (p0 : (List (ByteArray × ByteArray))) : Option (Int) :=
 if (decide ((List.length p0 : Int) > 64)) = true then (some 2) else ((loopM (revision_Check_L1 N p0) N 0).bind fun out1 => (match out1 with | .inl o1 => some 0 | .inr (z) => some z))
set_option maxHeartbeats 4000000 in
set_option maxRecDepth 100000 in
theorem revision_Check_ok {N : Nat} {m : Mem} {own : List Piece} {w : World} {p0 : (List (ByteArray × ByteArray))} {a1 : Option Addr} {c1 : Nat} {r : Int} (st : St m (own) w) (r1 : RepS (cPair cStr cStr) m a1 c1 p0) (hr : revision_Check N p0 = some r) : Calls Tryz.prog 75 #[.agg #[.slice a1 (List.length p0) c1]] w fun e w' => ∃ (m' : Mem), e = .returned (.int .i64 r) ∧ m.le m' ∧ St m' (own) w' := by
 unfold revision_Check at hr
 have hm := m.le_refl
 refine W_calls Tryz.func75 rfl Tryz.ntmps75 [(0, .agg #[.slice a1 (List.length p0) c1])] kr rfl ?_
 refine W_sr (WO_one rfl (One_box (d := 1) (e := 25) (x := (.tmp 0)) (.agg #[.slice a1 (List.length p0) c1]) kr rfl kr st ?_))
 clear st
 intro b1 m1 w1 hle1 st hb1
 have hm := Mem.le_trans hm hle1
 have r1 := r1.mono hle1
 refine WO_seg 1 [] kr kr ?_
 refine WO_et rfl (W_seq ?_)
 refine W_sr (WO_seg 1 [(5, .pointer (some ⟨b1, 0, none⟩))] kr kr ?_)
 refine WO_one rfl (One_load_row (d := 6) (t := 23) (x := (.tmp 5)) (.slice a1 (List.length p0) c1) kr rfl (ev (.pointer (some ⟨b1, 0, none⟩))) st hb1 kr ?_)
 refine WO_seg 2 [(8, .bool (decide ((List.length p0 : Int) > 64)))] kr kr ?_
 refine WO_et rfl (W_cond (decide ((List.length p0 : Int) > 64)) kr ?_ ?_)
 ·intro hc
  rw [if_pos hc] at hr
  refine W_sr (WO_seg 1 [(2, .int .i64 2)] kr kr ?_)
  refine WO_et rfl (W_ret ?_)
  refine X_then_ret ?_
  obtain rfl := Option.some.inj hr
  refine X_ret [.tmp 2] [.int .i64 2] rfl (ResAll.cons (ResAt.tmp kr) ResAll.nil) ?_
  exact ⟨m1, rfl, hm, st⟩
 ·intro hc
  rw [if_neg (not_true hc)] at hr
  refine W_skip ?_
  refine X_then ?_
  refine W_seq ?_
  refine W_sr (WO_seg 1 [(9, .pointer (some ⟨b1, 0, none⟩))] kr kr ?_)
  refine WO_one rfl (One_load_row (d := 10) (t := 23) (x := (.tmp 9)) (.slice a1 (List.length p0) c1) kr rfl (ev (.pointer (some ⟨b1, 0, none⟩))) st hb1 kr ?_)
  refine WO_seg 2 [(11, .int .i64 (List.length p0 : Int)), (12, .int .i64 0)] kr kr ?_
  refine WO_et rfl (W_block ?_)
  replace ⟨out1, hr, hrKu1⟩ := bindS hr
  refine W_cut (.exit 0) (fun L' w' => ∃ (o1 : Unit) (m2 : Mem), (.inl o1) = out1 ∧ L' = [] ∧ m.le m2 ∧ St m2 (own) w') ?_ ?_
  ·clear hr st
   rintro _ w2 ⟨o1, m2, rfl, rfl, hm, st⟩
   have hr := hrKu1
   clear hrKu1
   dsimp only at hr
   refine X_block_eq ?_
   refine X_then ?_
   refine W_sr (WO_seg 1 [(2, .int .i64 0)] kr kr ?_)
   refine WO_et rfl (W_ret ?_)
   obtain rfl := Option.some.inj hr
   refine X_ret [.tmp 2] [.int .i64 0] rfl (ResAll.cons (ResAt.tmp kr) ResAll.nil) ?_
   exact ⟨m2, rfl, hm, st⟩
  intro K0_u1
  refine W_env _ kr (W_loop (fun k1 L' w' => ∃ (s1 : Int) (m3 : Mem), loopM (revision_Check_L1 N p0) k1 s1 = some out1 ∧ L' = [(1, .pointer (some ⟨b1, 0, none⟩)), (10, .slice a1 (List.length p0) c1), (11, .int .i64 (List.length p0 : Int)), (12, .int .i64 s1)] ∧ m.le m3 ∧ St m3 (own) w' ∧ MRow m3 b1 0 [.slice a1 (List.length p0) c1] ∧ RepS (cPair cStr cStr) m3 a1 c1 p0) N ⟨0, m1, hr, rfl, hm, st, hb1, r1⟩ ?_)
  clear st hr
  rintro k1 _ w3 ⟨s1, m3, hL, rfl, hm, st, hb1, r1⟩
  rcases k1 with _ | k1
  ·exact loopM_zero hL
  ·obtain ⟨qu1, hr, hSu1, hBu1⟩ := loopM_succ hL
   clear hL
   unfold revision_Check_L1 at hr
   refine W_sr (WO_seg 1 [(13, .bool (decide (s1 < (List.length p0 : Int))))] kr kr ?_)
   refine WO_et rfl (W_seq ?_)
   refine W_cond (decide (s1 < (List.length p0 : Int))) kr ?_ ?_
   ·intro hc
    rw [if_pos hc] at hr
    refine W_skip ?_
    refine X_then ?_
    refine W_seq ?_
    refine W_block ?_
    refine W_sr (WO_seg 1 [(14, .int .i64 s1)] kr kr ?_)
    replace ⟨x1, hx1, hr⟩ := bindS hr
    refine WO_one rfl (One_index (d := 15) (t := 23) (e := 74) (x := (.tmp 10)) (y := (.tmp 12)) (cPair cStr cStr) kr rfl (ev (.slice a1 (List.length p0) c1)) (ev (.int .i64 s1)) kr r1 hx1 ?_)
    rintro b2 f1 cs1 ⟨_, _, rfl, rfl, rfl⟩ hq1
    refine WO_one rfl (One_load_row (d := 16) (t := 74) (x := (.tmp 15)) (.agg #[.string x1.1, .string x1.2]) kr rfl (ev (.pointer (some ⟨b2, f1, none⟩))) st hq1 kr ?_)
    refine WO_one rfl (One_alloc (d := 4) (e := 74) (.agg #[.string (⟨#[]⟩ : ByteArray), .string (⟨#[]⟩ : ByteArray)]) kr rfl kr st ?_)
    clear st
    intro b3 w4 st
    refine WO_seg 1 [(3, .int .i64 s1)] kr kr ?_
    refine WO_one rfl (One_store (t := 74) (x := (.tmp 4)) (y := (.tmp 16)) (v := .agg #[.string x1.1, .string x1.2]) (c' := #[.string x1.1, .string x1.2]) kr (ev (.pointer (some ⟨b3, 0, none⟩))) (ev (.agg #[.string x1.1, .string x1.2])) st kr kr ?_)
    clear st
    intro w5 st
    refine WO_et rfl (W_block ?_)
    refine W_sr (WO_seg 1 [(18, .pointer (some ⟨b3, 0, none⟩))] kr kr ?_)
    refine WO_one rfl (One_load_own (d := 19) (t := 9) (x := (.tmp 18)) (.string x1.1) kr rfl (ev (.pointer (some ⟨b3, 0, none⟩))) st.head kr ?_)
    replace ⟨y1, hx2, hr⟩ := bindS hr
    refine WO_one rfl (One_fn 20 70 #[.string x1.1] kr rfl ?_)
    refine (lexer_Path_ok st hx2).mono ?_
    clear st
    rintro _ w6 ⟨m4, rfl, hle2, st⟩
    refine ⟨_, rfl, ?_⟩
    have hm := Mem.le_trans hm hle2
    have hb1 := hb1.mono hle2
    have r1 := r1.mono hle2
    refine WO_seg 2 [(17, .bool (!y1))] kr kr ?_
    refine WO_et rfl (W_cond (!y1) kr ?_ ?_)
    ·intro hc
     rw [if_pos hc] at hr
     refine W_sr (WO_seg 1 [(2, .int .i64 6)] kr kr ?_)
     refine WO_et rfl (W_ret ?_)
     refine X_block_ret ?_
     refine X_block_ret ?_
     refine X_then_ret ?_
     obtain rfl := Option.some.inj hr
     have ho := hBu1 _ rfl
     subst ho
     have hr := hrKu1
     dsimp only at hr
     refine X_then_ret ?_
     refine X_block_ret ?_
     refine X_then_ret ?_
     obtain rfl := Option.some.inj hr
     refine X_ret [.tmp 2] [.int .i64 6] rfl (ResAll.cons (ResAt.tmp kr) ResAll.nil) ?_
     have st := st.tail
     exact ⟨m4, rfl, hm, st⟩
    ·intro hc
     rw [if_neg (not_true hc)] at hr
     refine W_seq ?_
     replace ⟨o2, hr, hrK⟩ := bindS hr
     refine W_cut .normal (fun L' w' => ∃ (m5 : Mem), L' = [(1, .pointer (some ⟨b1, 0, none⟩)), (3, .int .i64 s1), (4, .pointer (some ⟨b3, 0, none⟩)), (10, .slice a1 (List.length p0) c1), (11, .int .i64 (List.length p0 : Int)), (12, .int .i64 s1), (22, .bool o2)] ∧ m.le m5 ∧ St m5 (.blk b3 (.cells #[.string x1.1, .string x1.2] 74 (0, 0)) :: own) w' ∧ MRow m5 b1 0 [.slice a1 (List.length p0) c1] ∧ RepS (cPair cStr cStr) m5 a1 c1 p0) ?_ ?_
     ·clear hr st
      have hr := hrK
      clear hrK
      rintro _ w7 ⟨m5, rfl, hm, st, hb1, r1⟩
      refine X_then ?_
      refine W_cond o2 kr ?_ ?_
      ·intro hc
       rw [if_pos hc] at hr
       refine W_sr (WO_seg 1 [(2, .int .i64 10)] kr kr ?_)
       refine WO_et rfl (W_ret ?_)
       refine X_block_ret ?_
       refine X_block_ret ?_
       refine X_then_ret ?_
       obtain rfl := Option.some.inj hr
       have ho := hBu1 _ rfl
       subst ho
       have hr := hrKu1
       dsimp only at hr
       refine X_then_ret ?_
       refine X_block_ret ?_
       refine X_then_ret ?_
       obtain rfl := Option.some.inj hr
       refine X_ret [.tmp 2] [.int .i64 10] rfl (ResAll.cons (ResAt.tmp kr) ResAll.nil) ?_
       have st := st.tail
       exact ⟨m5, rfl, hm, st⟩
      ·intro hc
       rw [if_neg (not_true hc)] at hr
       refine W_seq ?_
       replace ⟨o3, hr, hrK⟩ := bindS hr
       refine W_cut .normal (fun L' w' => ∃ (m6 : Mem), L' = [(1, .pointer (some ⟨b1, 0, none⟩)), (4, .pointer (some ⟨b3, 0, none⟩)), (10, .slice a1 (List.length p0) c1), (11, .int .i64 (List.length p0 : Int)), (12, .int .i64 s1), (37, .bool o3)] ∧ m.le m6 ∧ St m6 (.blk b3 (.cells #[.string x1.1, .string x1.2] 74 (0, 0)) :: own) w' ∧ MRow m6 b1 0 [.slice a1 (List.length p0) c1] ∧ RepS (cPair cStr cStr) m6 a1 c1 p0) ?_ ?_
       ·clear hr st
        have hr := hrK
        clear hrK
        rintro _ w9 ⟨m6, rfl, hm, st, hb1, r1⟩
        refine X_then ?_
        refine W_cond o3 kr ?_ ?_
        ·intro hc
         rw [if_pos hc] at hr
         refine W_sr (WO_seg 1 [(2, .int .i64 6)] kr kr ?_)
         refine WO_et rfl (W_ret ?_)
         refine X_block_ret ?_
         refine X_block_ret ?_
         refine X_then_ret ?_
         obtain rfl := Option.some.inj hr
         have ho := hBu1 _ rfl
         subst ho
         have hr := hrKu1
         dsimp only at hr
         refine X_then_ret ?_
         refine X_block_ret ?_
         refine X_then_ret ?_
         obtain rfl := Option.some.inj hr
         refine X_ret [.tmp 2] [.int .i64 6] rfl (ResAll.cons (ResAt.tmp kr) ResAll.nil) ?_
         have st := st.tail
         exact ⟨m6, rfl, hm, st⟩
        ·intro hc
         rw [if_neg (not_true hc)] at hr
         refine W_sr (WO_seg 1 [(53, .pointer (some ⟨b3, 1, none⟩))] kr kr ?_)
         refine WO_one rfl (One_load_own (d := 54) (t := 9) (x := (.tmp 53)) (.string x1.2) kr rfl (ev (.pointer (some ⟨b3, 1, none⟩))) st.head kr ?_)
         refine WO_seg 3 [(52, .bool (decide ((ByteArray.size x1.2 : Int) > 16384)))] kr kr ?_
         refine WO_et rfl (W_cond (decide ((ByteArray.size x1.2 : Int) > 16384)) kr ?_ ?_)
         ·intro hc
          rw [if_pos hc] at hr
          refine W_sr (WO_seg 1 [(2, .int .i64 2)] kr kr ?_)
          refine WO_et rfl (W_ret ?_)
          refine X_block_ret ?_
          refine X_block_ret ?_
          refine X_then_ret ?_
          obtain rfl := Option.some.inj hr
          have ho := hBu1 _ rfl
          subst ho
          have hr := hrKu1
          dsimp only at hr
          refine X_then_ret ?_
          refine X_block_ret ?_
          refine X_then_ret ?_
          obtain rfl := Option.some.inj hr
          refine X_ret [.tmp 2] [.int .i64 2] rfl (ResAll.cons (ResAt.tmp kr) ResAll.nil) ?_
          have st := st.tail
          exact ⟨m6, rfl, hm, st⟩
         ·intro hc
          rw [if_neg (not_true hc)] at hr
          refine W_skip ?_
          refine X_block ?_
          refine X_block ?_
          refine X_then ?_
          refine W_region ?_
          refine WO_seg 2 [(12, .int .i64 (IntKind.wrap .i64 (s1 + 1)))] kr kr ?_
          refine WO_end rfl ?_
          obtain rfl := Option.some.inj hr
          have hL := hSu1 _ rfl
          have st := st.tail
          exact X_env _ kr (X_round k1 (Nat.lt_succ_self _) ⟨IntKind.wrap .i64 (s1 + 1), m6, hL, rfl, hm, st, hb1, r1⟩)
       ·intro K
        clear hrK
        refine W_draw [(15, fun w' => Inv m5 w' ∧ Piece.holds m5 w' (.blk b3 (.cells #[.string x1.1, .string x1.2] 74 (0, 0))) ∧ True)] kr st ?_
        clear st
        intro w10 _ st
        have hmS2 := m5.le_refl
        refine ⟨⟨.inr ⟨Inv.anti st.inv hmS2, Piece.holds_anti st.head hmS2, trivial⟩, trivial⟩, ?_⟩
        refine WA_pure 0 38 (.int .i64 s1) kr rfl kr (.head _) (QP_then (QP_block (QP_block (QP_then (QP_then (QP_block (QP_then QP_body))))))) ?_
        refine WA_pure 1 39 (.bool (decide (s1 > 0))) kr rfl kr (.head _) (QP_then (QP_block (QP_block (QP_then (QP_then (QP_block (QP_then QP_body))))))) ?_
        refine WA_pure 2 40 (.bool (decide (s1 > 0))) kr rfl kr (.head _) (QP_then (QP_block (QP_block (QP_then (QP_then (QP_block (QP_then QP_body))))))) ?_
        rcases bcases (decide (s1 > 0)) with hc | hc
        ·rw [if_pos hc] at hr
         refine WA_fact (t := 40) (b := true) (decide (s1 > 0)) kr hc ?_
         refine WA_pure 3 41 (.pointer (some ⟨b3, 0, none⟩)) kr rfl kr (.head _) (QP_then (QP_block (QP_block (QP_then (QP_then (QP_block (QP_then QP_body))))))) ?_
         refine WA_load_own (t := 9) (x := (.tmp 41)) 4 42 (.string x1.1) kr rfl kr (.head _) (QP_then (QP_block (QP_block (QP_then (QP_then (QP_block (QP_then QP_body))))))) (fun _ h => h.2.1) (ev (.pointer (some ⟨b3, 0, none⟩))) kr ?_
         refine WA_pure 5 43 (.pointer (some ⟨b1, 0, none⟩)) kr rfl kr (.head _) (QP_then (QP_block (QP_block (QP_then (QP_then (QP_block (QP_then QP_body))))))) ?_
         refine WA_load_row (t := 23) (x := (.tmp 43)) 6 44 (.slice a1 (List.length p0) c1) kr rfl kr (.head _) (QP_then (QP_block (QP_block (QP_then (QP_then (QP_block (QP_then QP_body))))))) (fun _ h => h.1) (ev (.pointer (some ⟨b1, 0, none⟩))) hb1 kr ?_
         refine WA_pure 7 45 (.int .i64 s1) kr rfl kr (.head _) (QP_then (QP_block (QP_block (QP_then (QP_then (QP_block (QP_then QP_body))))))) ?_
         refine WA_pure 8 46 (.int .i64 (IntKind.wrap .i64 (s1 - 1))) kr rfl kr (.head _) (QP_then (QP_block (QP_block (QP_then (QP_then (QP_block (QP_then QP_body))))))) ?_
         replace ⟨x3, hx4, hr⟩ := bindS hr
         refine WA_index (t := 23) (e := 74) (x := (.tmp 44)) (y := (.tmp 46)) 9 47 (cPair cStr cStr) kr rfl kr (.head _) (QP_then (QP_block (QP_block (QP_then (QP_then (QP_block (QP_then QP_body))))))) (ev (.slice a1 (List.length p0) c1)) (ev (.int .i64 (IntKind.wrap .i64 (s1 - 1)))) kr r1 hx4 ?_
         rintro b5 f3 cs3 ⟨_, _, rfl, rfl, rfl⟩ hq3
         refine WA_pure 10 48 (.pointer (some ⟨b5, f3, none⟩)) kr rfl kr (.head _) (QP_then (QP_block (QP_block (QP_then (QP_then (QP_block (QP_then QP_body))))))) ?_
         refine WA_load_row (t := 9) (x := (.tmp 48)) 11 49 (.string x3.1) kr rfl kr (.head _) (QP_then (QP_block (QP_block (QP_then (QP_then (QP_block (QP_then QP_body))))))) (fun _ h => h.1) (ev (.pointer (some ⟨b5, f3, none⟩))) hq3 kr ?_
         refine WA_pure 12 50 (.bool (Op.bytesLess x1.1.toList x3.1.toList)) kr rfl kr (.head _) (QP_then (QP_block (QP_block (QP_then (QP_then (QP_block (QP_then QP_body))))))) ?_
         refine WA_pure 13 51 (.bool (Op.bytesLess x1.1.toList x3.1.toList)) kr rfl kr (.head _) (QP_then (QP_block (QP_block (QP_then (QP_then (QP_block (QP_then QP_body))))))) ?_
         refine WA_pure 14 37 (.bool (Op.bytesLess x1.1.toList x3.1.toList)) kr rfl kr (.head _) (QP_then (QP_block (QP_block (QP_then (QP_then (QP_block (QP_then QP_body))))))) ?_
         obtain rfl := Option.some.inj hr
         exact WA_done kr (X_env _ kr (K _ _ ⟨m5, rfl, hm, st, hb1, r1⟩))
        ·rw [if_neg (not_true hc)] at hr
         refine WA_fact (t := 40) (b := false) (decide (s1 > 0)) kr hc ?_
         refine WA_not 3 41 kr rfl kr (.head _) (QP_then (QP_block (QP_block (QP_then (QP_then (QP_block (QP_then QP_body))))))) ?_
         refine WA_not 4 42 kr rfl kr (.head _) (QP_then (QP_block (QP_block (QP_then (QP_then (QP_block (QP_then QP_body))))))) ?_
         refine WA_not 5 43 kr rfl kr (.head _) (QP_then (QP_block (QP_block (QP_then (QP_then (QP_block (QP_then QP_body))))))) ?_
         refine WA_not 6 44 kr rfl kr (.head _) (QP_then (QP_block (QP_block (QP_then (QP_then (QP_block (QP_then QP_body))))))) ?_
         refine WA_not 7 45 kr rfl kr (.head _) (QP_then (QP_block (QP_block (QP_then (QP_then (QP_block (QP_then QP_body))))))) ?_
         refine WA_not 8 46 kr rfl kr (.head _) (QP_then (QP_block (QP_block (QP_then (QP_then (QP_block (QP_then QP_body))))))) ?_
         refine WA_not 9 47 kr rfl kr (.head _) (QP_then (QP_block (QP_block (QP_then (QP_then (QP_block (QP_then QP_body))))))) ?_
         refine WA_not 10 48 kr rfl kr (.head _) (QP_then (QP_block (QP_block (QP_then (QP_then (QP_block (QP_then QP_body))))))) ?_
         refine WA_not 11 49 kr rfl kr (.head _) (QP_then (QP_block (QP_block (QP_then (QP_then (QP_block (QP_then QP_body))))))) ?_
         refine WA_not 12 50 kr rfl kr (.head _) (QP_then (QP_block (QP_block (QP_then (QP_then (QP_block (QP_then QP_body))))))) ?_
         refine WA_pure 13 51 (.bool false) kr rfl kr (.head _) (QP_then (QP_block (QP_block (QP_then (QP_then (QP_block (QP_then QP_body))))))) ?_
         refine WA_pure 14 37 (.bool false) kr rfl kr (.head _) (QP_then (QP_block (QP_block (QP_then (QP_then (QP_block (QP_then QP_body))))))) ?_
         obtain rfl := Option.some.inj hr
         exact WA_done kr (X_env _ kr (K _ _ ⟨m5, rfl, hm, st, hb1, r1⟩))
     ·intro K
      clear hrK
      refine W_draw [(15, fun w' => Inv m4 w' ∧ Piece.holds m4 w' (.blk b3 (.cells #[.string x1.1, .string x1.2] 74 (0, 0))) ∧ True)] kr st ?_
      clear st
      intro w8 _ st
      have hmS1 := m4.le_refl
      refine ⟨⟨.inr ⟨Inv.anti st.inv hmS1, Piece.holds_anti st.head hmS1, trivial⟩, trivial⟩, ?_⟩
      refine WA_pure 0 23 (.int .i64 s1) kr rfl kr (.head _) (QP_then (QP_block (QP_block (QP_then (QP_then (QP_block (QP_then QP_body))))))) ?_
      refine WA_pure 1 24 (.bool (decide (s1 > 0))) kr rfl kr (.head _) (QP_then (QP_block (QP_block (QP_then (QP_then (QP_block (QP_then QP_body))))))) ?_
      refine WA_pure 2 25 (.bool (decide (s1 > 0))) kr rfl kr (.head _) (QP_then (QP_block (QP_block (QP_then (QP_then (QP_block (QP_then QP_body))))))) ?_
      rcases bcases (decide (s1 > 0)) with hc | hc
      ·rw [if_pos hc] at hr
       refine WA_fact (t := 25) (b := true) (decide (s1 > 0)) kr hc ?_
       refine WA_pure 3 26 (.pointer (some ⟨b3, 0, none⟩)) kr rfl kr (.head _) (QP_then (QP_block (QP_block (QP_then (QP_then (QP_block (QP_then QP_body))))))) ?_
       refine WA_load_own (t := 9) (x := (.tmp 26)) 4 27 (.string x1.1) kr rfl kr (.head _) (QP_then (QP_block (QP_block (QP_then (QP_then (QP_block (QP_then QP_body))))))) (fun _ h => h.2.1) (ev (.pointer (some ⟨b3, 0, none⟩))) kr ?_
       refine WA_pure 5 28 (.pointer (some ⟨b1, 0, none⟩)) kr rfl kr (.head _) (QP_then (QP_block (QP_block (QP_then (QP_then (QP_block (QP_then QP_body))))))) ?_
       refine WA_load_row (t := 23) (x := (.tmp 28)) 6 29 (.slice a1 (List.length p0) c1) kr rfl kr (.head _) (QP_then (QP_block (QP_block (QP_then (QP_then (QP_block (QP_then QP_body))))))) (fun _ h => h.1) (ev (.pointer (some ⟨b1, 0, none⟩))) hb1 kr ?_
       refine WA_pure 7 30 (.int .i64 s1) kr rfl kr (.head _) (QP_then (QP_block (QP_block (QP_then (QP_then (QP_block (QP_then QP_body))))))) ?_
       refine WA_pure 8 31 (.int .i64 (IntKind.wrap .i64 (s1 - 1))) kr rfl kr (.head _) (QP_then (QP_block (QP_block (QP_then (QP_then (QP_block (QP_then QP_body))))))) ?_
       replace ⟨x2, hx3, hr⟩ := bindS hr
       refine WA_index (t := 23) (e := 74) (x := (.tmp 29)) (y := (.tmp 31)) 9 32 (cPair cStr cStr) kr rfl kr (.head _) (QP_then (QP_block (QP_block (QP_then (QP_then (QP_block (QP_then QP_body))))))) (ev (.slice a1 (List.length p0) c1)) (ev (.int .i64 (IntKind.wrap .i64 (s1 - 1)))) kr r1 hx3 ?_
       rintro b4 f2 cs2 ⟨_, _, rfl, rfl, rfl⟩ hq2
       refine WA_pure 10 33 (.pointer (some ⟨b4, f2, none⟩)) kr rfl kr (.head _) (QP_then (QP_block (QP_block (QP_then (QP_then (QP_block (QP_then QP_body))))))) ?_
       refine WA_load_row (t := 9) (x := (.tmp 33)) 11 34 (.string x2.1) kr rfl kr (.head _) (QP_then (QP_block (QP_block (QP_then (QP_then (QP_block (QP_then QP_body))))))) (fun _ h => h.1) (ev (.pointer (some ⟨b4, f2, none⟩))) hq2 kr ?_
       refine WA_pure 12 35 (.bool (x1.1.toList == x2.1.toList)) kr rfl kr (.head _) (QP_then (QP_block (QP_block (QP_then (QP_then (QP_block (QP_then QP_body))))))) ?_
       refine WA_pure 13 36 (.bool (x1.1.toList == x2.1.toList)) kr rfl kr (.head _) (QP_then (QP_block (QP_block (QP_then (QP_then (QP_block (QP_then QP_body))))))) ?_
       refine WA_pure 14 22 (.bool (x1.1.toList == x2.1.toList)) kr rfl kr (.head _) (QP_then (QP_block (QP_block (QP_then (QP_then (QP_block (QP_then QP_body))))))) ?_
       obtain rfl := Option.some.inj hr
       exact WA_done kr (X_env _ kr (K _ _ ⟨m4, rfl, hm, st, hb1, r1⟩))
      ·rw [if_neg (not_true hc)] at hr
       refine WA_fact (t := 25) (b := false) (decide (s1 > 0)) kr hc ?_
       refine WA_not 3 26 kr rfl kr (.head _) (QP_then (QP_block (QP_block (QP_then (QP_then (QP_block (QP_then QP_body))))))) ?_
       refine WA_not 4 27 kr rfl kr (.head _) (QP_then (QP_block (QP_block (QP_then (QP_then (QP_block (QP_then QP_body))))))) ?_
       refine WA_not 5 28 kr rfl kr (.head _) (QP_then (QP_block (QP_block (QP_then (QP_then (QP_block (QP_then QP_body))))))) ?_
       refine WA_not 6 29 kr rfl kr (.head _) (QP_then (QP_block (QP_block (QP_then (QP_then (QP_block (QP_then QP_body))))))) ?_
       refine WA_not 7 30 kr rfl kr (.head _) (QP_then (QP_block (QP_block (QP_then (QP_then (QP_block (QP_then QP_body))))))) ?_
       refine WA_not 8 31 kr rfl kr (.head _) (QP_then (QP_block (QP_block (QP_then (QP_then (QP_block (QP_then QP_body))))))) ?_
       refine WA_not 9 32 kr rfl kr (.head _) (QP_then (QP_block (QP_block (QP_then (QP_then (QP_block (QP_then QP_body))))))) ?_
       refine WA_not 10 33 kr rfl kr (.head _) (QP_then (QP_block (QP_block (QP_then (QP_then (QP_block (QP_then QP_body))))))) ?_
       refine WA_not 11 34 kr rfl kr (.head _) (QP_then (QP_block (QP_block (QP_then (QP_then (QP_block (QP_then QP_body))))))) ?_
       refine WA_not 12 35 kr rfl kr (.head _) (QP_then (QP_block (QP_block (QP_then (QP_then (QP_block (QP_then QP_body))))))) ?_
       refine WA_pure 13 36 (.bool false) kr rfl kr (.head _) (QP_then (QP_block (QP_block (QP_then (QP_then (QP_block (QP_then QP_body))))))) ?_
       refine WA_pure 14 22 (.bool false) kr rfl kr (.head _) (QP_then (QP_block (QP_block (QP_then (QP_then (QP_block (QP_then QP_body))))))) ?_
       obtain rfl := Option.some.inj hr
       exact WA_done kr (X_env _ kr (K _ _ ⟨m4, rfl, hm, st, hb1, r1⟩))
   ·intro hc
    rw [if_neg (not_true hc)] at hr
    refine W_exit ?_
    refine X_then_exit ?_
    obtain rfl := Option.some.inj hr
    have ho := hBu1 _ rfl
    refine X_then_exit ?_
    exact X_env _ kr (K0_u1 _ _ ⟨(), m3, ho, rfl, hm, st⟩)
def filediff_formed (N : Nat) (p0 : Int × ByteArray × ByteArray × ByteArray) : Option (Bool) :=
 (if (p0.1 == 1) = true then (some (p0.1 == 1)) else (some (p0.1 == 3)) : Option (Bool)).bind fun o1 => if o1 = true then (some (p0.2.2.1.toList == (⟨#[]⟩ : ByteArray).toList)) else (if (p0.1 == 2) = true then ((if (p0.2.2.1.toList == (⟨#[]⟩ : ByteArray).toList) = true then (some (p0.2.2.2.toList == (⟨#[]⟩ : ByteArray).toList)) else (some false) : Option (Bool)).bind fun o2 => some o2) else (if (p0.1 == 4) = true then (some (p0.2.2.2.toList == (⟨#[]⟩ : ByteArray).toList)) else (some false)))
set_option maxHeartbeats 4000000 in
set_option maxRecDepth 100000 in
theorem filediff_formed_ok {N : Nat} {m : Mem} {own : List Piece} {w : World} {p0 : Int × ByteArray × ByteArray × ByteArray} {r : Bool} (st : St m (own) w) (hr : filediff_formed N p0 = some r) : Calls Tryz.prog 86 #[.agg #[.int .i64 p0.1, .string p0.2.1, .string p0.2.2.1, .string p0.2.2.2]] w fun e w' => ∃ (m' : Mem), e = .returned (.bool r) ∧ m.le m' ∧ St m' (own) w' := by
 unfold filediff_formed at hr
 have hm := m.le_refl
 refine W_calls Tryz.func86 rfl Tryz.ntmps86 [(0, .agg #[.int .i64 p0.1, .string p0.2.1, .string p0.2.2.1, .string p0.2.2.2])] kr rfl ?_
 refine W_sr (WO_one rfl (One_box (d := 1) (e := 72) (x := (.tmp 0)) (.agg #[.int .i64 p0.1, .string p0.2.1, .string p0.2.2.1, .string p0.2.2.2]) kr rfl kr st ?_))
 clear st
 intro b1 m1 w1 hle1 st hb1
 have hm := Mem.le_trans hm hle1
 refine WO_seg 1 [] kr kr ?_
 refine WO_et rfl (W_seq ?_)
 refine W_sr (WO_seg 1 [(3, .pointer (some ⟨b1, 0, none⟩))] kr kr ?_)
 refine WO_one rfl (One_load_row (d := 4) (t := 3) (x := (.tmp 3)) (.int .i64 p0.1) kr rfl (ev (.pointer (some ⟨b1, 0, none⟩))) st hb1 kr ?_)
 refine WO_et rfl (W_block ?_)
 refine W_seq ?_
 refine W_sr (WO_seg 2 [(5, .bool (p0.1 == 1))] kr kr ?_)
 refine WO_et rfl ?_
 replace ⟨o1, hr, hrKu1⟩ := bindS hr
 refine W_cut .normal (fun L' w' => ∃ (m2 : Mem), L' = [(1, .pointer (some ⟨b1, 0, none⟩)), (4, .int .i64 p0.1), (5, .bool o1)] ∧ m.le m2 ∧ St m2 (own) w' ∧ MRow m2 b1 0 [.int .i64 p0.1, .string p0.2.1, .string p0.2.2.1, .string p0.2.2.2]) ?_ ?_
 ·clear hr st
  have hr := hrKu1
  clear hrKu1
  rintro _ w2 ⟨m2, rfl, hm, st, hb1⟩
  refine X_then ?_
  refine W_cond o1 kr ?_ ?_
  ·intro hc
   rw [if_pos hc] at hr
   refine W_sr (WO_seg 1 [(8, .pointer (some ⟨b1, 2, none⟩))] kr kr ?_)
   refine WO_one rfl (One_load_row (d := 9) (t := 9) (x := (.tmp 8)) (.string p0.2.2.1) kr rfl (ev (.pointer (some ⟨b1, 2, none⟩))) st (hb1.drop 2) kr ?_)
   refine WO_seg 2 [(2, .bool (p0.2.2.1.toList == (⟨#[]⟩ : ByteArray).toList))] kr kr ?_
   refine WO_et rfl (W_ret ?_)
   refine X_block_ret ?_
   refine X_then_ret ?_
   obtain rfl := Option.some.inj hr
   refine X_ret [.tmp 2] [.bool (p0.2.2.1.toList == (⟨#[]⟩ : ByteArray).toList)] rfl (ResAll.cons (ResAt.tmp kr) ResAll.nil) ?_
   exact ⟨m2, rfl, hm, st⟩
  ·intro hc
   rw [if_neg (not_true hc)] at hr
   refine W_sr (WO_seg 2 [(11, .bool (p0.1 == 2))] kr kr ?_)
   refine WO_et rfl (W_cond (p0.1 == 2) kr ?_ ?_)
   ·intro hc
    rw [if_pos hc] at hr
    refine W_sr ?_
    replace ⟨o2, hr, hrK⟩ := bindS hr
    refine WO_cut (j := 9) (fun L' w' => ∃ (m3 : Mem), L' = [(2, .bool o2)] ∧ m.le m3 ∧ St m3 (own) w') ?_ ?_
    ·clear hr st
     have hr := hrK
     clear hrK
     rintro _ w3 ⟨m3, rfl, hm, st⟩
     refine WO_et rfl (W_ret ?_)
     refine X_block_ret ?_
     refine X_then_ret ?_
     obtain rfl := Option.some.inj hr
     refine X_ret [.tmp 2] [.bool o2] rfl (ResAll.cons (ResAt.tmp kr) ResAll.nil) ?_
     exact ⟨m3, rfl, hm, st⟩
    ·intro K
     clear hrK
     refine WO_seg 1 [(13, .pointer (some ⟨b1, 2, none⟩))] kr kr ?_
     refine WO_one rfl (One_load_row (d := 14) (t := 9) (x := (.tmp 13)) (.string p0.2.2.1) kr rfl (ev (.pointer (some ⟨b1, 2, none⟩))) st (hb1.drop 2) kr ?_)
     refine WO_seg 2 [(16, .bool (p0.2.2.1.toList == (⟨#[]⟩ : ByteArray).toList))] kr kr ?_
     rcases bcases (p0.2.2.1.toList == (⟨#[]⟩ : ByteArray).toList) with hc | hc
     ·rw [if_pos hc] at hr
      refine WO_fact (t := 16) (b := true) (p0.2.2.1.toList == (⟨#[]⟩ : ByteArray).toList) kr hc ?_
      refine WO_seg 1 [(17, .pointer (some ⟨b1, 3, none⟩))] kr kr ?_
      refine WO_one rfl (One_load_row (d := 18) (t := 9) (x := (.tmp 17)) (.string p0.2.2.2) kr rfl (ev (.pointer (some ⟨b1, 3, none⟩))) st (hb1.drop 3) kr ?_)
      refine WO_seg 3 [(2, .bool (p0.2.2.2.toList == (⟨#[]⟩ : ByteArray).toList))] kr kr ?_
      obtain rfl := Option.some.inj hr
      exact WO_env _ kr (K _ _ ⟨m2, rfl, hm, st⟩)
     ·rw [if_neg (not_true hc)] at hr
      refine WO_fact (t := 16) (b := false) (p0.2.2.1.toList == (⟨#[]⟩ : ByteArray).toList) kr hc ?_
      refine WO_seg 5 [(2, .bool false)] kr kr ?_
      obtain rfl := Option.some.inj hr
      exact WO_env _ kr (K _ _ ⟨m2, rfl, hm, st⟩)
   ·intro hc
    rw [if_neg (not_true hc)] at hr
    refine W_sr (WO_seg 2 [(21, .bool (p0.1 == 4))] kr kr ?_)
    refine WO_et rfl (W_cond (p0.1 == 4) kr ?_ ?_)
    ·intro hc
     rw [if_pos hc] at hr
     refine W_sr (WO_seg 1 [(23, .pointer (some ⟨b1, 3, none⟩))] kr kr ?_)
     refine WO_one rfl (One_load_row (d := 24) (t := 9) (x := (.tmp 23)) (.string p0.2.2.2) kr rfl (ev (.pointer (some ⟨b1, 3, none⟩))) st (hb1.drop 3) kr ?_)
     refine WO_seg 2 [(2, .bool (p0.2.2.2.toList == (⟨#[]⟩ : ByteArray).toList))] kr kr ?_
     refine WO_et rfl (W_ret ?_)
     refine X_block_ret ?_
     refine X_then_ret ?_
     obtain rfl := Option.some.inj hr
     refine X_ret [.tmp 2] [.bool (p0.2.2.2.toList == (⟨#[]⟩ : ByteArray).toList)] rfl (ResAll.cons (ResAt.tmp kr) ResAll.nil) ?_
     exact ⟨m2, rfl, hm, st⟩
    ·intro hc
     rw [if_neg (not_true hc)] at hr
     refine W_skip ?_
     refine X_block ?_
     refine X_then ?_
     refine W_sr (WO_seg 1 [(2, .bool false)] kr kr ?_)
     refine WO_et rfl (W_ret ?_)
     obtain rfl := Option.some.inj hr
     refine X_ret [.tmp 2] [.bool false] rfl (ResAll.cons (ResAt.tmp kr) ResAll.nil) ?_
     exact ⟨m2, rfl, hm, st⟩
 ·intro Ku1
  clear hrKu1
  refine W_cond (p0.1 == 1) kr ?_ ?_
  ·intro hc
   rw [if_pos hc] at hr
   refine W_skip ?_
   obtain rfl := Option.some.inj hr
   exact X_env _ kr (Ku1 _ _ ⟨m1, rfl, hm, st, hb1⟩)
  ·intro hc
   rw [if_neg (not_true hc)] at hr
   refine W_region ?_
   refine WO_seg 2 [(5, .bool (p0.1 == 3))] kr kr ?_
   refine WO_end rfl ?_
   obtain rfl := Option.some.inj hr
   exact X_env _ kr (Ku1 _ _ ⟨m1, rfl, hm, st, hb1⟩)
def filediff_Apply_1 (N : Nat) (p0 : Int × ByteArray × ByteArray × ByteArray) : Option (Bool) :=
 (filediff_formed N (p0.1, p0.2.1, p0.2.2.1, p0.2.2.2)).bind fun y1 => some (!y1)
set_option maxHeartbeats 4000000 in
set_option maxRecDepth 100000 in
theorem filediff_Apply_1_ok {N : Nat} {m : Mem} {own : List Piece} {w : World} {p0 : Int × ByteArray × ByteArray × ByteArray} {r : Bool} (st : St m (own) w) (hr : filediff_Apply_1 N p0 = some r) : Calls Tryz.prog 85 #[.agg #[.int .i64 p0.1, .string p0.2.1, .string p0.2.2.1, .string p0.2.2.2]] w fun e w' => ∃ (m' : Mem), e = .returned (.bool r) ∧ m.le m' ∧ St m' (own) w' := by
 unfold filediff_Apply_1 at hr
 have hm := m.le_refl
 refine W_calls Tryz.func85 rfl Tryz.ntmps85 [(0, .agg #[.int .i64 p0.1, .string p0.2.1, .string p0.2.2.1, .string p0.2.2.2])] kr rfl ?_
 refine W_sr (WO_one rfl (One_box (d := 1) (e := 72) (x := (.tmp 0)) (.agg #[.int .i64 p0.1, .string p0.2.1, .string p0.2.2.1, .string p0.2.2.2]) kr rfl kr st ?_))
 clear st
 intro b1 m1 w1 hle1 st hb1
 have hm := Mem.le_trans hm hle1
 refine WO_seg 1 [] kr kr ?_
 refine WO_et rfl (W_sr ?_)
 refine WO_one rfl (One_load_row (d := 3) (t := 72) (x := (.tmp 1)) (.agg #[.int .i64 p0.1, .string p0.2.1, .string p0.2.2.1, .string p0.2.2.2]) kr rfl (ev (.pointer (some ⟨b1, 0, none⟩))) st hb1 kr ?_)
 replace ⟨y1, hx1, hr⟩ := bindS hr
 refine WO_one rfl (One_fn 4 86 #[.agg #[.int .i64 p0.1, .string p0.2.1, .string p0.2.2.1, .string p0.2.2.2]] kr rfl ?_)
 refine (filediff_formed_ok st hx1).mono ?_
 clear st
 rintro _ w2 ⟨m2, rfl, hle2, st⟩
 refine ⟨_, rfl, ?_⟩
 have hm := Mem.le_trans hm hle2
 have hb1 := hb1.mono hle2
 refine WO_seg 2 [(2, .bool (!y1))] kr kr ?_
 refine WO_et rfl (W_ret ?_)
 obtain rfl := Option.some.inj hr
 refine X_ret [.tmp 2] [.bool (!y1)] rfl (ResAll.cons (ResAt.tmp kr) ResAll.nil) ?_
 exact ⟨m2, rfl, hm, st⟩
def filediff_taken (N : Nat) (p0 : Int × ByteArray × ByteArray × ByteArray) : Option (ByteArray × Bool) :=
 if (p0.1 == 4) = true then (some (p0.2.2.1, true)) else (if (p0.1 == 1) = true then (some ((⟨#[]⟩ : ByteArray), false)) else (some (p0.2.1, true)))
set_option maxHeartbeats 4000000 in
set_option maxRecDepth 100000 in
theorem filediff_taken_ok {N : Nat} {m : Mem} {own : List Piece} {w : World} {p0 : Int × ByteArray × ByteArray × ByteArray} {r : ByteArray × Bool} (st : St m (own) w) (hr : filediff_taken N p0 = some r) : Calls Tryz.prog 87 #[.agg #[.int .i64 p0.1, .string p0.2.1, .string p0.2.2.1, .string p0.2.2.2]] w fun e w' => ∃ (m' : Mem), e = .returned (.tuple #[.string r.1, .bool r.2]) ∧ m.le m' ∧ St m' (own) w' := by
 unfold filediff_taken at hr
 have hm := m.le_refl
 refine W_calls Tryz.func87 rfl Tryz.ntmps87 [(0, .agg #[.int .i64 p0.1, .string p0.2.1, .string p0.2.2.1, .string p0.2.2.2])] kr rfl ?_
 refine W_sr (WO_one rfl (One_box (d := 1) (e := 72) (x := (.tmp 0)) (.agg #[.int .i64 p0.1, .string p0.2.1, .string p0.2.2.1, .string p0.2.2.2]) kr rfl kr st ?_))
 clear st
 intro b1 m1 w1 hle1 st hb1
 have hm := Mem.le_trans hm hle1
 refine WO_seg 2 [] kr kr ?_
 refine WO_et rfl (W_seq ?_)
 refine W_sr (WO_seg 1 [(4, .pointer (some ⟨b1, 0, none⟩))] kr kr ?_)
 refine WO_one rfl (One_load_row (d := 5) (t := 3) (x := (.tmp 4)) (.int .i64 p0.1) kr rfl (ev (.pointer (some ⟨b1, 0, none⟩))) st hb1 kr ?_)
 refine WO_et rfl (W_block ?_)
 refine W_sr (WO_seg 2 [(6, .bool (p0.1 == 4))] kr kr ?_)
 refine WO_et rfl (W_cond (p0.1 == 4) kr ?_ ?_)
 ·intro hc
  rw [if_pos hc] at hr
  refine W_sr (WO_seg 1 [(8, .pointer (some ⟨b1, 2, none⟩))] kr kr ?_)
  refine WO_one rfl (One_load_row (d := 9) (t := 9) (x := (.tmp 8)) (.string p0.2.2.1) kr rfl (ev (.pointer (some ⟨b1, 2, none⟩))) st (hb1.drop 2) kr ?_)
  refine WO_seg 2 [(2, .string p0.2.2.1), (3, .bool true)] kr kr ?_
  refine WO_et rfl (W_ret ?_)
  refine X_block_ret ?_
  refine X_then_ret ?_
  obtain rfl := Option.some.inj hr
  refine X_ret [.tmp 2, .tmp 3] [.string p0.2.2.1, .bool true] rfl (ResAll.cons (ResAt.tmp kr) (ResAll.cons (ResAt.tmp kr) ResAll.nil)) ?_
  exact ⟨m1, rfl, hm, st⟩
 ·intro hc
  rw [if_neg (not_true hc)] at hr
  refine W_sr (WO_seg 2 [(10, .bool (p0.1 == 1))] kr kr ?_)
  refine WO_et rfl (W_cond (p0.1 == 1) kr ?_ ?_)
  ·intro hc
   rw [if_pos hc] at hr
   refine W_sr (WO_seg 2 [(2, .string (⟨#[]⟩ : ByteArray)), (3, .bool false)] kr kr ?_)
   refine WO_et rfl (W_ret ?_)
   refine X_block_ret ?_
   refine X_then_ret ?_
   obtain rfl := Option.some.inj hr
   refine X_ret [.tmp 2, .tmp 3] [.string (⟨#[]⟩ : ByteArray), .bool false] rfl (ResAll.cons (ResAt.tmp kr) (ResAll.cons (ResAt.tmp kr) ResAll.nil)) ?_
   exact ⟨m1, rfl, hm, st⟩
  ·intro hc
   rw [if_neg (not_true hc)] at hr
   refine W_skip ?_
   refine X_block ?_
   refine X_then ?_
   refine W_sr (WO_seg 1 [(12, .pointer (some ⟨b1, 1, none⟩))] kr kr ?_)
   refine WO_one rfl (One_load_row (d := 13) (t := 9) (x := (.tmp 12)) (.string p0.2.1) kr rfl (ev (.pointer (some ⟨b1, 1, none⟩))) st (hb1.drop 1) kr ?_)
   refine WO_seg 2 [(2, .string p0.2.1), (3, .bool true)] kr kr ?_
   refine WO_et rfl (W_ret ?_)
   obtain rfl := Option.some.inj hr
   refine X_ret [.tmp 2, .tmp 3] [.string p0.2.1, .bool true] rfl (ResAll.cons (ResAt.tmp kr) (ResAll.cons (ResAt.tmp kr) ResAll.nil)) ?_
   exact ⟨m1, rfl, hm, st⟩
def filediff_put (N : Nat) (p0 : Int × ByteArray × ByteArray × ByteArray) : Option (Bool) :=
 some (p0.1 != 2)
set_option maxHeartbeats 4000000 in
set_option maxRecDepth 100000 in
theorem filediff_put_ok {N : Nat} {m : Mem} {own : List Piece} {w : World} {p0 : Int × ByteArray × ByteArray × ByteArray} {r : Bool} (st : St m (own) w) (hr : filediff_put N p0 = some r) : Calls Tryz.prog 88 #[.agg #[.int .i64 p0.1, .string p0.2.1, .string p0.2.2.1, .string p0.2.2.2]] w fun e w' => ∃ (m' : Mem), e = .returned (.bool r) ∧ m.le m' ∧ St m' (own) w' := by
 unfold filediff_put at hr
 have hm := m.le_refl
 refine W_calls Tryz.func88 rfl Tryz.ntmps88 [(0, .agg #[.int .i64 p0.1, .string p0.2.1, .string p0.2.2.1, .string p0.2.2.2])] kr rfl ?_
 refine W_sr (WO_one rfl (One_box (d := 1) (e := 72) (x := (.tmp 0)) (.agg #[.int .i64 p0.1, .string p0.2.1, .string p0.2.2.1, .string p0.2.2.2]) kr rfl kr st ?_))
 clear st
 intro b1 m1 w1 hle1 st hb1
 have hm := Mem.le_trans hm hle1
 refine WO_seg 1 [] kr kr ?_
 refine WO_et rfl (W_sr ?_)
 refine WO_seg 1 [(3, .pointer (some ⟨b1, 0, none⟩))] kr kr ?_
 refine WO_one rfl (One_load_row (d := 4) (t := 3) (x := (.tmp 3)) (.int .i64 p0.1) kr rfl (ev (.pointer (some ⟨b1, 0, none⟩))) st hb1 kr ?_)
 refine WO_seg 2 [(2, .bool (p0.1 != 2))] kr kr ?_
 refine WO_et rfl (W_ret ?_)
 obtain rfl := Option.some.inj hr
 refine X_ret [.tmp 2] [.bool (p0.1 != 2)] rfl (ResAll.cons (ResAt.tmp kr) ResAll.nil) ?_
 exact ⟨m1, rfl, hm, st⟩
end Go.Proofs.YtgggihpbhmbjaaaGreatDoor
