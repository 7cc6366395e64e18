/- MADE BY gen.py: plain functions and the proofs that the Go functions compute them. No condition but those of each theorem. -/
import Derived.Test.YtfodebccikifcaaDoorProg
import Derived.Test.YtfodebccikifcaaDoorArr
import Derived.Test.YtfodebccikifcaaDoorTConk6A
namespace Go.Proofs.YtfodebccikifcaaDoor
open Go Go.Dc

def testgatelaw04_LexerLong_L1 (N : Nat) (p0 : Int) (s1 : Int × List (UInt8)) : Option ((Int × List (UInt8)) ⊕ ((List (UInt8)))) :=
  if (decide (s1.1 < ((Int.toNat (IntKind.wrap .i64 (16382 + (IntKind.wrap .i64 (Int.tmod p0 5))))) : Int))) = true then ((idx s1.2 s1.1).bind fun x1 => some (.inl (IntKind.wrap .i64 (s1.1 + 1), List.set s1.2 (Int.toNat s1.1) (32 : UInt8)))) else (some (.inr s1.2))

def testgatelaw04_LexerLong (N : Nat) (p0 : Int) : Option (Bool) :=
  (makeA 1 (0 : UInt8) (IntKind.wrap .i64 (16382 + (IntKind.wrap .i64 (Int.tmod p0 5))))).bind fun l1 => (loopM (testgatelaw04_LexerLong_L1 N p0) N (0, l1)).bind fun o1 => (lexer_Tokens N (strOf o1)).bind fun y1 => if (decide ((IntKind.wrap .i64 (16382 + (IntKind.wrap .i64 (Int.tmod p0 5)))) > 16384)) = true then ((if ((List.length y1.1 : Int) == 0) = true then (if (y1.2.1 == 0) = true then (if (y1.2.2 == 2) = true then ((testgatelaw04_awake N).bind fun y2 => some y2) else (some false)) else (some false)) else (some false) : Option (Bool)).bind fun o2 => some o2) else ((if ((List.length y1.1 : Int) == 1) = true then ((idx y1.1 0).bind fun x2 => if (x2.2.2.2 == (IntKind.wrap .i64 (16382 + (IntKind.wrap .i64 (Int.tmod p0 5))))) = true then (if (y1.2.2 == 0) = true then ((testgatelaw04_awake N).bind fun y3 => some y3) else (some false)) else (some false)) else (some false) : Option (Bool)).bind fun o3 => some o3)

set_option maxHeartbeats 4000000 in
set_option maxRecDepth 100000 in
theorem testgatelaw04_LexerLong_ok {N : Nat} {m : Mem} {own : List Piece} {w : World} {p0 : Int} {r : Bool} (st : St m (own) w) (hr : testgatelaw04_LexerLong N p0 = some r) : Calls Go.Proofs.Tryd.prog 8 #[.int .u8 p0] w fun e w' => ∃ (m' : Mem), e = .returned (.bool r) ∧ m.le m' ∧ St m' (own) w' := by
  unfold testgatelaw04_LexerLong at hr
  have hm := m.le_refl
  refine W_calls Go.Proofs.Tryd.func8 rfl Go.Proofs.Tryd.ntmps8 [(0, .int .u8 p0)] (by kernel_rfl) rfl ?_
  refine W_seq ?_
  refine W_region ?_
  refine WO_seg 1 [] (by kernel_rfl) (by kernel_rfl) ?_
  refine WO_end rfl ?_
  refine X_then ?_
  refine W_seq ?_
  refine W_region ?_
  refine WO_seg 5 [(3, .int .i64 (IntKind.wrap .i64 (16382 + (IntKind.wrap .i64 (Int.tmod p0 5)))))] (by kernel_rfl) (by kernel_rfl) ?_
  refine WO_end rfl ?_
  refine X_then ?_
  refine W_seq ?_
  refine W_region ?_
  refine WO_seg 1 [(13, .int .i64 (IntKind.wrap .i64 (16382 + (IntKind.wrap .i64 (Int.tmod p0 5)))))] (by kernel_rfl) (by kernel_rfl) ?_
  replace hr := bindS hr
  obtain ⟨l1, hx1, hr⟩ := hr
  refine WO_one rfl (One_makeArr (d := 14) (t := 43) (e := 5) (by_ := 1) (x := (.tmp 13)) (y := (.tmp 13)) (fun x : UInt8 => Value.int .u8 (x.toNat : Int)) (by kernel_rfl) rfl (show evL _ _ = some (.int .i64 (IntKind.wrap .i64 (16382 + (IntKind.wrap .i64 (Int.tmod p0 5))))) from (by kernel_rfl)) (show evL _ _ = some (.int .i64 (IntKind.wrap .i64 (16382 + (IntKind.wrap .i64 (Int.tmod p0 5))))) from (by kernel_rfl)) (by kernel_rfl) (by kernel_rfl) rfl st hx1 ?_)
  clear st
  intro b1 w1 hn1 st
  refine WO_seg 1 [(4, .slice (some ⟨b1, 0, none⟩) (Int.toNat (IntKind.wrap .i64 (16382 + (IntKind.wrap .i64 (Int.tmod p0 5))))) (Int.toNat (IntKind.wrap .i64 (16382 + (IntKind.wrap .i64 (Int.tmod p0 5))))))] (by kernel_rfl) (by kernel_rfl) ?_
  refine WO_end rfl ?_
  refine X_then ?_
  refine W_seq ?_
  refine W_seq ?_
  refine W_region ?_
  refine WO_seg 3 [(16, .int .i64 ((Int.toNat (IntKind.wrap .i64 (16382 + (IntKind.wrap .i64 (Int.tmod p0 5))))) : Int)), (17, .int .i64 0)] (by kernel_rfl) (by kernel_rfl) ?_
  refine WO_end rfl ?_
  refine X_then ?_
  refine W_block ?_
  replace hr := bindS hr
  obtain ⟨out1, hr, hrKu1⟩ := hr
  refine W_cut (.exit 0) (fun L' w' => ∃ (o1 : List (UInt8)) (m1 : Mem), o1 = out1 ∧ L' = [(3, .int .i64 (IntKind.wrap .i64 (16382 + (IntKind.wrap .i64 (Int.tmod p0 5))))), (4, .slice (some ⟨b1, 0, none⟩) (Int.toNat (IntKind.wrap .i64 (16382 + (IntKind.wrap .i64 (Int.tmod p0 5))))) (Int.toNat (IntKind.wrap .i64 (16382 + (IntKind.wrap .i64 (Int.tmod p0 5))))))] ∧ m.le m1 ∧ St m1 (.blk b1 (.cells (acells (fun x : UInt8 => Value.int .u8 (x.toNat : Int)) o1 []) 5 (0, 0)) :: own) w' ∧ List.length o1 = (Int.toNat (IntKind.wrap .i64 (16382 + (IntKind.wrap .i64 (Int.tmod p0 5)))))) ?_ ?_
  · clear hr st
    rintro _ w2 ⟨o1, m1, rfl, rfl, hm, st, hn2⟩
    have hr := hrKu1
    clear hrKu1
    refine X_block_eq ?_
    refine X_then ?_
    refine W_seq ?_
    refine W_region ?_
    refine WO_seg 1 [(25, .slice (some ⟨b1, 0, none⟩) (Int.toNat (IntKind.wrap .i64 (16382 + (IntKind.wrap .i64 (Int.tmod p0 5))))) (Int.toNat (IntKind.wrap .i64 (16382 + (IntKind.wrap .i64 (Int.tmod p0 5))))))] (by kernel_rfl) (by kernel_rfl) ?_
    obtain ⟨m3, hle1, st, r1⟩ := St.freeze (c := cU8) st hn2 (Nat.le_refl _) (makeA_le hx1) (acells_size hn2 (Nat.add_zero _)) rfl (fun _ _ => rfl)
    have hm := Mem.le_trans hm hle1
    refine WO_env [(3, .int .i64 (IntKind.wrap .i64 (16382 + (IntKind.wrap .i64 (Int.tmod p0 5))))), (4, .slice (some ⟨b1, 0, none⟩) (List.length o1) (Int.toNat (IntKind.wrap .i64 (16382 + (IntKind.wrap .i64 (Int.tmod p0 5)))))), (25, .slice (some ⟨b1, 0, none⟩) (List.length o1) (Int.toNat (IntKind.wrap .i64 (16382 + (IntKind.wrap .i64 (Int.tmod p0 5))))))] (by (try simp only [hn2]); kernel_rfl) ?_
    refine WO_one rfl (One_bytesStr (d := 26) (t1 := 43) (t2 := 9) (e := 5) (x := (.tmp 25)) (by kernel_rfl) rfl (show evL _ _ = some (.slice (some ⟨b1, 0, none⟩) (List.length o1) (Int.toNat (IntKind.wrap .i64 (16382 + (IntKind.wrap .i64 (Int.tmod p0 5)))))) from (by kernel_rfl)) (by kernel_rfl) (by kernel_rfl) st r1 ?_)
    replace hr := bindS hr
    obtain ⟨y1, hx3, hr⟩ := hr
    refine WO_one rfl (One_fn 27 24 #[.string (strOf o1)] (by kernel_rfl) rfl ?_)
    refine (lexer_Tokens_ok st hx3).mono ?_
    clear st
    rintro _ w5 ⟨a1, c1, m4, rfl, hle2, st, r2⟩
    refine ⟨_, rfl, ?_⟩
    have hm := Mem.le_trans hm hle2
    have r1 := r1.mono hle2
    refine WO_seg 7 [(6, .slice a1 (List.length y1.1) c1), (7, .int .i64 y1.2.1), (8, .int .i64 y1.2.2)] (by kernel_rfl) (by kernel_rfl) ?_
    refine WO_end rfl ?_
    have st := st.front1
    have st := st.tail
    refine X_then ?_
    refine W_seq ?_
    refine W_seq ?_
    refine W_region ?_
    refine WO_seg 2 [(32, .bool (decide ((IntKind.wrap .i64 (16382 + (IntKind.wrap .i64 (Int.tmod p0 5)))) > 16384)))] (by kernel_rfl) (by kernel_rfl) ?_
    refine WO_end rfl ?_
    refine X_then ?_
    refine W_cond (decide ((IntKind.wrap .i64 (16382 + (IntKind.wrap .i64 (Int.tmod p0 5)))) > 16384)) (by kernel_rfl) ?_ ?_
    · intro hc
      rw [if_pos hc] at hr
      refine W_seq ?_
      refine W_region ?_
      replace hr := bindS hr
      obtain ⟨o2, hr, hrK⟩ := hr
      refine WO_cut (j := 15) (fun L' w' => ∃ (m5 : Mem), L' = [(2, .bool o2)] ∧ m.le m5 ∧ St m5 (.room a1 (List.length y1.1) c1 42 4 :: own) w') ?_ ?_
      · clear hr st
        have hr := hrK
        clear hrK
        rintro _ w6 ⟨m5, rfl, hm, st⟩
        refine WO_end rfl ?_
        refine X_then ?_
        refine W_ret ?_
        refine X_then_ret ?_
        obtain rfl := Option.some.inj hr
        refine X_ret [.tmp 2] [.bool o2] rfl (ResAll.cons (ResAt.tmp (by kernel_rfl)) ResAll.nil) ?_
        have st := st.tail
        exact ⟨m5, rfl, hm, st⟩
      · intro K
        clear hrK
        refine WO_seg 4 [(36, .bool ((List.length y1.1 : Int) == 0))] (by kernel_rfl) (by kernel_rfl) ?_
        rcases bcases ((List.length y1.1 : Int) == 0) with hc | hc
        · rw [if_pos hc] at hr
          refine WO_fact (t := 36) (b := true) ((List.length y1.1 : Int) == 0) (by kernel_rfl) hc ?_
          refine WO_seg 4 [(40, .bool (y1.2.1 == 0))] (by kernel_rfl) (by kernel_rfl) ?_
          rcases bcases (y1.2.1 == 0) with hc | hc
          · rw [if_pos hc] at hr
            refine WO_fact (t := 40) (b := true) (y1.2.1 == 0) (by kernel_rfl) hc ?_
            refine WO_seg 4 [(44, .bool (y1.2.2 == 2))] (by kernel_rfl) (by kernel_rfl) ?_
            rcases bcases (y1.2.2 == 2) with hc | hc
            · rw [if_pos hc] at hr
              refine WO_fact (t := 44) (b := true) (y1.2.2 == 2) (by kernel_rfl) hc ?_
              replace hr := bindS hr
              obtain ⟨y2, hx4, hr⟩ := hr
              refine WO_one rfl (One_fn 45 19 #[] (by kernel_rfl) rfl ?_)
              refine (testgatelaw04_awake_ok st hx4).mono ?_
              clear st
              rintro _ w7 ⟨m6, rfl, hle3, st⟩
              refine ⟨_, rfl, ?_⟩
              have hm := Mem.le_trans hm hle3
              have r2 := r2.mono hle3
              refine WO_seg 2 [(2, .bool y2)] (by kernel_rfl) (by kernel_rfl) ?_
              obtain rfl := Option.some.inj hr
              exact WO_env _ (by kernel_rfl) (K _ _ ⟨m6, rfl, hm, st⟩)
            · rw [if_neg (not_true hc)] at hr
              refine WO_fact (t := 44) (b := false) (y1.2.2 == 2) (by kernel_rfl) hc ?_
              refine WO_seg 3 [(2, .bool false)] (by kernel_rfl) (by kernel_rfl) ?_
              obtain rfl := Option.some.inj hr
              exact WO_env _ (by kernel_rfl) (K _ _ ⟨m4, rfl, hm, st⟩)
          · rw [if_neg (not_true hc)] at hr
            refine WO_fact (t := 40) (b := false) (y1.2.1 == 0) (by kernel_rfl) hc ?_
            refine WO_seg 7 [(2, .bool false)] (by kernel_rfl) (by kernel_rfl) ?_
            obtain rfl := Option.some.inj hr
            exact WO_env _ (by kernel_rfl) (K _ _ ⟨m4, rfl, hm, st⟩)
        · rw [if_neg (not_true hc)] at hr
          refine WO_fact (t := 36) (b := false) ((List.length y1.1 : Int) == 0) (by kernel_rfl) hc ?_
          refine WO_seg 11 [(2, .bool false)] (by kernel_rfl) (by kernel_rfl) ?_
          obtain rfl := Option.some.inj hr
          exact WO_env _ (by kernel_rfl) (K _ _ ⟨m4, rfl, hm, st⟩)
    · intro hc
      rw [if_neg (not_true hc)] at hr
      refine W_skip ?_
      refine X_then ?_
      refine W_seq ?_
      refine W_region ?_
      replace hr := bindS hr
      obtain ⟨o3, hr, hrK⟩ := hr
      refine WO_cut (j := 19) (fun L' w' => ∃ (m7 : Mem), L' = [(2, .bool o3)] ∧ m.le m7 ∧ St m7 (.room a1 (List.length y1.1) c1 42 4 :: own) w') ?_ ?_
      · clear hr st
        have hr := hrK
        clear hrK
        rintro _ w8 ⟨m7, rfl, hm, st⟩
        refine WO_end rfl ?_
        refine X_then ?_
        refine W_ret ?_
        obtain rfl := Option.some.inj hr
        refine X_ret [.tmp 2] [.bool o3] rfl (ResAll.cons (ResAt.tmp (by kernel_rfl)) ResAll.nil) ?_
        have st := st.tail
        exact ⟨m7, rfl, hm, st⟩
      · intro K
        clear hrK
        refine WO_seg 4 [(50, .bool ((List.length y1.1 : Int) == 1))] (by kernel_rfl) (by kernel_rfl) ?_
        rcases bcases ((List.length y1.1 : Int) == 1) with hc | hc
        · rw [if_pos hc] at hr
          refine WO_fact (t := 50) (b := true) ((List.length y1.1 : Int) == 1) (by kernel_rfl) hc ?_
          refine WO_seg 1 [(51, .slice a1 (List.length y1.1) c1)] (by kernel_rfl) (by kernel_rfl) ?_
          replace hr := bindS hr
          obtain ⟨x2, hx5, hr⟩ := hr
          refine WO_one rfl (One_index (d := 52) (t := 37) (e := 42) (x := (.tmp 51)) (y := (.const (.int .i64 0))) (cPair (cInt .i64) (cPair cStr (cPair (cInt .i64) (cInt .i64)))) (by kernel_rfl) rfl (show evL _ _ = some (.slice a1 (List.length y1.1) c1) from (by kernel_rfl)) (show evL _ _ = some (.int .i64 0) from (by kernel_rfl)) (by kernel_rfl) r2 hx5 ?_)
          rintro b2 f1 cs1 ⟨_, _, rfl, rfl, ⟨_, _, rfl, rfl, ⟨_, _, rfl, rfl, rfl⟩⟩⟩ hq1
          refine WO_seg 1 [(53, .pointer (some ⟨b2, f1 + 3, none⟩))] (by kernel_rfl) (by kernel_rfl) ?_
          refine WO_one rfl (One_load_row (d := 54) (t := 3) (x := (.tmp 53)) (.int .i64 x2.2.2.2) (by kernel_rfl) rfl (show evL _ _ = some (.pointer (some ⟨b2, f1 + 3, none⟩)) from (by kernel_rfl)) st (hq1.drop 3) (by kernel_rfl) ?_)
          refine WO_seg 4 [(58, .bool (x2.2.2.2 == (IntKind.wrap .i64 (16382 + (IntKind.wrap .i64 (Int.tmod p0 5))))))] (by kernel_rfl) (by kernel_rfl) ?_
          rcases bcases (x2.2.2.2 == (IntKind.wrap .i64 (16382 + (IntKind.wrap .i64 (Int.tmod p0 5))))) with hc | hc
          · rw [if_pos hc] at hr
            refine WO_fact (t := 58) (b := true) (x2.2.2.2 == (IntKind.wrap .i64 (16382 + (IntKind.wrap .i64 (Int.tmod p0 5))))) (by kernel_rfl) hc ?_
            refine WO_seg 4 [(62, .bool (y1.2.2 == 0))] (by kernel_rfl) (by kernel_rfl) ?_
            rcases bcases (y1.2.2 == 0) with hc | hc
            · rw [if_pos hc] at hr
              refine WO_fact (t := 62) (b := true) (y1.2.2 == 0) (by kernel_rfl) hc ?_
              replace hr := bindS hr
              obtain ⟨y3, hx6, hr⟩ := hr
              refine WO_one rfl (One_fn 63 19 #[] (by kernel_rfl) rfl ?_)
              refine (testgatelaw04_awake_ok st hx6).mono ?_
              clear st
              rintro _ w9 ⟨m8, rfl, hle4, st⟩
              refine ⟨_, rfl, ?_⟩
              have hm := Mem.le_trans hm hle4
              have r2 := r2.mono hle4
              have hq1 := hq1.mono hle4
              refine WO_seg 2 [(2, .bool y3)] (by kernel_rfl) (by kernel_rfl) ?_
              obtain rfl := Option.some.inj hr
              exact WO_env _ (by kernel_rfl) (K _ _ ⟨m8, rfl, hm, st⟩)
            · rw [if_neg (not_true hc)] at hr
              refine WO_fact (t := 62) (b := false) (y1.2.2 == 0) (by kernel_rfl) hc ?_
              refine WO_seg 3 [(2, .bool false)] (by kernel_rfl) (by kernel_rfl) ?_
              obtain rfl := Option.some.inj hr
              exact WO_env _ (by kernel_rfl) (K _ _ ⟨m4, rfl, hm, st⟩)
          · rw [if_neg (not_true hc)] at hr
            refine WO_fact (t := 58) (b := false) (x2.2.2.2 == (IntKind.wrap .i64 (16382 + (IntKind.wrap .i64 (Int.tmod p0 5))))) (by kernel_rfl) hc ?_
            refine WO_seg 7 [(2, .bool false)] (by kernel_rfl) (by kernel_rfl) ?_
            obtain rfl := Option.some.inj hr
            exact WO_env _ (by kernel_rfl) (K _ _ ⟨m4, rfl, hm, st⟩)
        · rw [if_neg (not_true hc)] at hr
          refine WO_fact (t := 50) (b := false) ((List.length y1.1 : Int) == 1) (by kernel_rfl) hc ?_
          refine WO_seg 15 [(2, .bool false)] (by kernel_rfl) (by kernel_rfl) ?_
          obtain rfl := Option.some.inj hr
          exact WO_env _ (by kernel_rfl) (K _ _ ⟨m4, rfl, hm, st⟩)
  intro K0_u1
  clear hrKu1
  refine W_env _ (by kernel_rfl) (W_loop (fun k1 L' w' => ∃ (s1 : Int × List (UInt8)) (m2 : Mem), loopM (testgatelaw04_LexerLong_L1 N p0) k1 s1 = some out1 ∧ L' = [(3, .int .i64 (IntKind.wrap .i64 (16382 + (IntKind.wrap .i64 (Int.tmod p0 5))))), (4, .slice (some ⟨b1, 0, none⟩) (Int.toNat (IntKind.wrap .i64 (16382 + (IntKind.wrap .i64 (Int.tmod p0 5))))) (Int.toNat (IntKind.wrap .i64 (16382 + (IntKind.wrap .i64 (Int.tmod p0 5)))))), (16, .int .i64 ((Int.toNat (IntKind.wrap .i64 (16382 + (IntKind.wrap .i64 (Int.tmod p0 5))))) : Int)), (17, .int .i64 s1.1)] ∧ m.le m2 ∧ St m2 (.blk b1 (.cells (acells (fun x : UInt8 => Value.int .u8 (x.toNat : Int)) s1.2 []) 5 (0, 0)) :: own) w' ∧ List.length s1.2 = (Int.toNat (IntKind.wrap .i64 (16382 + (IntKind.wrap .i64 (Int.tmod p0 5)))))) N ⟨(0, l1), m, hr, rfl, hm, st, hn1⟩ ?_)
  clear st hr
  rintro k1 _ w3 ⟨s1, m2, hL, rfl, hm, st, hn3⟩
  rcases k1 with _ | k1
  · exact loopM_zero hL
  · obtain ⟨qu1, hr, hSu1, hBu1⟩ := loopM_succ hL
    clear hL
    unfold testgatelaw04_LexerLong_L1 at hr
    refine W_seq ?_
    refine W_region ?_
    refine WO_seg 1 [(18, .bool (decide (s1.1 < ((Int.toNat (IntKind.wrap .i64 (16382 + (IntKind.wrap .i64 (Int.tmod p0 5))))) : Int))))] (by kernel_rfl) (by kernel_rfl) ?_
    refine WO_end rfl ?_
    refine X_then ?_
    refine W_seq ?_
    refine W_cond (decide (s1.1 < ((Int.toNat (IntKind.wrap .i64 (16382 + (IntKind.wrap .i64 (Int.tmod p0 5))))) : Int))) (by kernel_rfl) ?_ ?_
    · intro hc
      rw [if_pos hc] at hr
      refine W_skip ?_
      refine X_then ?_
      refine W_seq ?_
      refine W_block ?_
      refine W_seq ?_
      refine W_region ?_
      refine WO_seg 2 [(5, .int .i64 s1.1)] (by kernel_rfl) (by kernel_rfl) ?_
      refine WO_end rfl ?_
      refine X_then ?_
      refine W_region ?_
      refine WO_seg 2 [(20, .slice (some ⟨b1, 0, none⟩) (Int.toNat (IntKind.wrap .i64 (16382 + (IntKind.wrap .i64 (Int.tmod p0 5))))) (Int.toNat (IntKind.wrap .i64 (16382 + (IntKind.wrap .i64 (Int.tmod p0 5)))))), (21, .int .i64 s1.1)] (by kernel_rfl) (by kernel_rfl) ?_
      replace hr := bindS hr
      obtain ⟨x1, hx2, hr⟩ := hr
      refine WO_one rfl (One_arrIndex (d := 22) (t := 43) (e := 5) (x := (.tmp 20)) (y := (.tmp 21)) (by kernel_rfl) rfl (show evL _ _ = some (.slice (some ⟨b1, 0, none⟩) (Int.toNat (IntKind.wrap .i64 (16382 + (IntKind.wrap .i64 (Int.tmod p0 5))))) (Int.toNat (IntKind.wrap .i64 (16382 + (IntKind.wrap .i64 (Int.tmod p0 5)))))) from (by kernel_rfl)) (show evL _ _ = some (.int .i64 s1.1) from (by kernel_rfl)) (by kernel_rfl) hn3 hx2 ?_)
      refine WO_one rfl (One_arrStore (f := (fun x : UInt8 => Value.int .u8 (x.toNat : Int))) (u := (32 : UInt8)) (t := 5) (x := (.tmp 22)) (y := (.const (.int .u8 32))) (by kernel_rfl) (show evL _ _ = some (.pointer (some ⟨b1, Int.toNat s1.1, none⟩)) from (by kernel_rfl)) ((show evL _ _ = some (.int .u8 32) from (by kernel_rfl)).trans (congrArg (fun z => some (Value.int .u8 z)) (show (32 : Int) = ((32 : UInt8).toNat : Int) by decide))) st hx2 rfl (by kernel_rfl) ?_)
      clear st
      intro w4 st
      have hn4 : List.length (List.set s1.2 (Int.toNat s1.1) (32 : UInt8)) = (Int.toNat (IntKind.wrap .i64 (16382 + (IntKind.wrap .i64 (Int.tmod p0 5))))) := set_len hn3 _ _
      refine WO_end rfl ?_
      refine X_block ?_
      refine X_then ?_
      refine W_region ?_
      refine WO_seg 2 [(17, .int .i64 (IntKind.wrap .i64 (s1.1 + 1)))] (by kernel_rfl) (by kernel_rfl) ?_
      refine WO_end rfl ?_
      obtain rfl := Option.some.inj hr
      have hL := hSu1 _ rfl
      exact X_env _ (by kernel_rfl) (X_round k1 (Nat.lt_succ_self _) ⟨(IntKind.wrap .i64 (s1.1 + 1), List.set s1.2 (Int.toNat s1.1) (32 : UInt8)), m2, hL, rfl, hm, st, hn4⟩)
    · intro hc
      rw [if_neg (not_true hc)] at hr
      refine W_exit ?_
      refine X_then_exit ?_
      obtain rfl := Option.some.inj hr
      have ho := hBu1 _ rfl
      refine X_then_exit ?_
      exact X_env _ (by kernel_rfl) (K0_u1 _ _ ⟨s1.2, m2, ho, rfl, hm, st, hn3⟩)

def testgatelaw04_limited (N : Nat) (p0 : ByteArray) : Option (ByteArray) :=
  if (decide ((ByteArray.size p0 : Int) > 2000)) = true then ((subB p0 0 2000).bind fun s1 => some s1) else (some p0)

set_option maxHeartbeats 4000000 in
set_option maxRecDepth 100000 in
theorem testgatelaw04_limited_ok {N : Nat} {m : Mem} {own : List Piece} {w : World} {p0 : ByteArray} {r : ByteArray} (st : St m (own) w) (hr : testgatelaw04_limited N p0 = some r) : Calls Go.Proofs.Tryd.prog 13 #[.string p0] w fun e w' => ∃ (m' : Mem), e = .returned (.string r) ∧ m.le m' ∧ St m' (own) w' := by
  unfold testgatelaw04_limited at hr
  have hm := m.le_refl
  refine W_calls Go.Proofs.Tryd.func13 rfl Go.Proofs.Tryd.ntmps13 [(0, .string p0)] (by kernel_rfl) rfl ?_
  refine W_seq ?_
  refine W_region ?_
  refine WO_seg 1 [] (by kernel_rfl) (by kernel_rfl) ?_
  refine WO_end rfl ?_
  refine X_then ?_
  refine W_seq ?_
  refine W_seq ?_
  refine W_region ?_
  refine WO_seg 3 [(5, .bool (decide ((ByteArray.size p0 : Int) > 2000)))] (by kernel_rfl) (by kernel_rfl) ?_
  refine WO_end rfl ?_
  refine X_then ?_
  refine W_cond (decide ((ByteArray.size p0 : Int) > 2000)) (by kernel_rfl) ?_ ?_
  · intro hc
    rw [if_pos hc] at hr
    refine W_seq ?_
    refine W_region ?_
    refine WO_seg 1 [(6, .string p0)] (by kernel_rfl) (by kernel_rfl) ?_
    replace hr := bindS hr
    obtain ⟨s1, hx1, hr⟩ := hr
    refine WO_one rfl (One_strSlice (d := 7) (t := 9) (x := (.tmp 6)) (lo := none) (hi := (some (.const (.int .i64 2000)))) (by kernel_rfl) rfl (show evL _ _ = some (.string p0) from (by kernel_rfl)) (by kernel_rfl) (.inl ⟨rfl, rfl⟩) (.inr ⟨_, _, rfl, (show evL _ _ = some (.int .i64 2000) from (by kernel_rfl))⟩) hx1 ?_)
    refine WO_seg 1 [(2, .string s1)] (by kernel_rfl) (by kernel_rfl) ?_
    refine WO_end rfl ?_
    refine X_then ?_
    refine W_ret ?_
    refine X_then_ret ?_
    obtain rfl := Option.some.inj hr
    refine X_ret [.tmp 2] [.string s1] rfl (ResAll.cons (ResAt.tmp (by kernel_rfl)) ResAll.nil) ?_
    exact ⟨m, rfl, hm, st⟩
  · intro hc
    rw [if_neg (not_true hc)] at hr
    refine W_skip ?_
    refine X_then ?_
    refine W_seq ?_
    refine W_region ?_
    refine WO_seg 2 [(2, .string p0)] (by kernel_rfl) (by kernel_rfl) ?_
    refine WO_end rfl ?_
    refine X_then ?_
    refine W_ret ?_
    obtain rfl := Option.some.inj hr
    refine X_ret [.tmp 2] [.string p0] rfl (ResAll.cons (ResAt.tmp (by kernel_rfl)) ResAll.nil) ?_
    exact ⟨m, rfl, hm, st⟩

def testgatelaw04_LexerPlaces_L1 (N : Nat) (y1 : ByteArray) (y2 : (List (Int × ByteArray × Int × Int)) × Int × Int) (s1 : Int × Int) : Option ((Int × Int) ⊕ ((Unit) ⊕ (Bool))) :=
  if (decide (s1.2 < (List.length y2.1 : Int))) = true then (((idx y2.1 s1.2).bind fun x1 => (if (decide (x1.2.2.2 < s1.1)) = true then (some true) else (if (decide (x1.2.2.2 > (ByteArray.size y1 : Int))) = true then (some true) else (some (!((x1.1 == 5) == (s1.2 == (IntKind.wrap .i64 ((List.length y2.1 : Int) - 1))))))) : Option (Bool)).bind fun o4 => if o4 = true then ((some (.inr (.inr (false)))).map .inr) else ((if (x1.1 == 1) = true then (if (decide ((IntKind.wrap .i64 (x1.2.2.2 + (ByteArray.size x1.2.1 : Int))) > (ByteArray.size y1 : Int))) = true then (some true) else ((subB y1 x1.2.2.2 (IntKind.wrap .i64 (x1.2.2.2 + (ByteArray.size x1.2.1 : Int)))).bind fun s2 => if (!(s2.toList == x1.2.1.toList)) = true then (some true) else (some ((ByteArray.size x1.2.1 : Int) == 0)))) else (if (x1.1 == 4) = true then (if (decide ((IntKind.wrap .i64 (x1.2.2.2 + (ByteArray.size x1.2.1 : Int))) > (ByteArray.size y1 : Int))) = true then (some true) else ((subB y1 x1.2.2.2 (IntKind.wrap .i64 (x1.2.2.2 + (ByteArray.size x1.2.1 : Int)))).bind fun s3 => if (!(s3.toList == x1.2.1.toList)) = true then (some true) else (some ((ByteArray.size x1.2.1 : Int) == 0)))) else (some false)) : Option (Bool)).bind fun o5 => if o5 = true then ((some (.inr (.inr (false)))).map .inr) else (if (x1.1 == 2) = true then (some (.inl (IntKind.wrap .i64 ((IntKind.wrap .i64 (x1.2.2.2 + (ByteArray.size x1.2.1 : Int))) + 1)))) else (some (.inl (IntKind.wrap .i64 (x1.2.2.2 + (ByteArray.size x1.2.1 : Int))))))) : Option ((Int) ⊕ ((Int × Int) ⊕ ((Unit) ⊕ (Bool))))).bind fun qu3 => (match qu3 with | .inl o3 => some (.inl (o3, IntKind.wrap .i64 (s1.2 + 1))) | .inr z => some z)) else (some (.inr (.inl ())))

def testgatelaw04_LexerPlaces (N : Nat) (p0 : ByteArray) : Option (Bool) :=
  (testgatelaw04_limited N p0).bind fun y1 => (lexer_Tokens N y1).bind fun y2 => if (y2.2.2 != 0) = true then ((if ((List.length y2.1 : Int) == 0) = true then (if (decide (y2.2.1 ≥ 0)) = true then (if (decide (y2.2.1 ≤ (ByteArray.size y1 : Int))) = true then ((testgatelaw04_awake N).bind fun y3 => some y3) else (some false)) else (some false)) else (some false) : Option (Bool)).bind fun o1 => some o1) else ((loopM (testgatelaw04_LexerPlaces_L1 N y1 y2) N (0, 0)).bind fun out1 => (match out1 with | .inl o2 => (if (decide ((List.length y2.1 : Int) > 0)) = true then ((testgatelaw04_awake N).bind fun y4 => some y4) else (some false) : Option (Bool)).bind fun o6 => some o6 | .inr (z) => some z))

set_option maxHeartbeats 4000000 in
set_option maxRecDepth 100000 in
theorem testgatelaw04_LexerPlaces_ok {N : Nat} {m : Mem} {own : List Piece} {w : World} {p0 : ByteArray} {r : Bool} (st : St m (own) w) (hr : testgatelaw04_LexerPlaces N p0 = some r) : Calls Go.Proofs.Tryd.prog 7 #[.string p0] w fun e w' => ∃ (m' : Mem), e = .returned (.bool r) ∧ m.le m' ∧ St m' (own) w' := by
  unfold testgatelaw04_LexerPlaces at hr
  have hm := m.le_refl
  refine W_calls Go.Proofs.Tryd.func7 rfl Go.Proofs.Tryd.ntmps7 [(0, .string p0)] (by kernel_rfl) rfl ?_
  refine W_seq ?_
  refine W_region ?_
  refine WO_seg 1 [] (by kernel_rfl) (by kernel_rfl) ?_
  refine WO_end rfl ?_
  refine X_then ?_
  refine W_seq ?_
  refine W_region ?_
  refine WO_seg 1 [(9, .string p0)] (by kernel_rfl) (by kernel_rfl) ?_
  replace hr := bindS hr
  obtain ⟨y1, hx1, hr⟩ := hr
  refine WO_one rfl (One_fn 10 13 #[.string p0] (by kernel_rfl) rfl ?_)
  refine (testgatelaw04_limited_ok st hx1).mono ?_
  clear st
  rintro _ w1 ⟨m1, rfl, hle1, st⟩
  refine ⟨_, rfl, ?_⟩
  have hm := Mem.le_trans hm hle1
  refine WO_seg 1 [(0, .string y1)] (by kernel_rfl) (by kernel_rfl) ?_
  refine WO_end rfl ?_
  refine X_then ?_
  refine W_seq ?_
  refine W_region ?_
  refine WO_seg 1 [(12, .string y1)] (by kernel_rfl) (by kernel_rfl) ?_
  replace hr := bindS hr
  obtain ⟨y2, hx2, hr⟩ := hr
  refine WO_one rfl (One_fn 13 24 #[.string y1] (by kernel_rfl) rfl ?_)
  refine (lexer_Tokens_ok st hx2).mono ?_
  clear st
  rintro _ w2 ⟨a1, c1, m2, rfl, hle2, st, r1⟩
  refine ⟨_, rfl, ?_⟩
  have hm := Mem.le_trans hm hle2
  refine WO_seg 7 [(3, .slice a1 (List.length y2.1) c1), (4, .int .i64 y2.2.1), (5, .int .i64 y2.2.2)] (by kernel_rfl) (by kernel_rfl) ?_
  refine WO_end rfl ?_
  refine X_then ?_
  refine W_seq ?_
  refine W_seq ?_
  refine W_region ?_
  refine WO_seg 2 [(18, .bool (y2.2.2 != 0))] (by kernel_rfl) (by kernel_rfl) ?_
  refine WO_end rfl ?_
  refine X_then ?_
  refine W_cond (y2.2.2 != 0) (by kernel_rfl) ?_ ?_
  · intro hc
    rw [if_pos hc] at hr
    refine W_seq ?_
    refine W_region ?_
    replace hr := bindS hr
    obtain ⟨o1, hr, hrK⟩ := hr
    refine WO_cut (j := 17) (fun L' w' => ∃ (m3 : Mem), L' = [(2, .bool o1)] ∧ m.le m3 ∧ St m3 (.room a1 (List.length y2.1) c1 42 4 :: own) w') ?_ ?_
    · clear hr st
      have hr := hrK
      clear hrK
      rintro _ w3 ⟨m3, rfl, hm, st⟩
      refine WO_end rfl ?_
      refine X_then ?_
      refine W_ret ?_
      refine X_then_ret ?_
      obtain rfl := Option.some.inj hr
      refine X_ret [.tmp 2] [.bool o1] rfl (ResAll.cons (ResAt.tmp (by kernel_rfl)) ResAll.nil) ?_
      have st := st.tail
      exact ⟨m3, rfl, hm, st⟩
    · intro K
      clear hrK
      refine WO_seg 4 [(22, .bool ((List.length y2.1 : Int) == 0))] (by kernel_rfl) (by kernel_rfl) ?_
      rcases bcases ((List.length y2.1 : Int) == 0) with hc | hc
      · rw [if_pos hc] at hr
        refine WO_fact (t := 22) (b := true) ((List.length y2.1 : Int) == 0) (by kernel_rfl) hc ?_
        refine WO_seg 4 [(26, .bool (decide (y2.2.1 ≥ 0)))] (by kernel_rfl) (by kernel_rfl) ?_
        rcases bcases (decide (y2.2.1 ≥ 0)) with hc | hc
        · rw [if_pos hc] at hr
          refine WO_fact (t := 26) (b := true) (decide (y2.2.1 ≥ 0)) (by kernel_rfl) hc ?_
          refine WO_seg 6 [(32, .bool (decide (y2.2.1 ≤ (ByteArray.size y1 : Int))))] (by kernel_rfl) (by kernel_rfl) ?_
          rcases bcases (decide (y2.2.1 ≤ (ByteArray.size y1 : Int))) with hc | hc
          · rw [if_pos hc] at hr
            refine WO_fact (t := 32) (b := true) (decide (y2.2.1 ≤ (ByteArray.size y1 : Int))) (by kernel_rfl) hc ?_
            replace hr := bindS hr
            obtain ⟨y3, hx3, hr⟩ := hr
            refine WO_one rfl (One_fn 33 19 #[] (by kernel_rfl) rfl ?_)
            refine (testgatelaw04_awake_ok st hx3).mono ?_
            clear st
            rintro _ w4 ⟨m4, rfl, hle3, st⟩
            refine ⟨_, rfl, ?_⟩
            have hm := Mem.le_trans hm hle3
            have r1 := r1.mono hle3
            refine WO_seg 2 [(2, .bool y3)] (by kernel_rfl) (by kernel_rfl) ?_
            obtain rfl := Option.some.inj hr
            exact WO_env _ (by kernel_rfl) (K _ _ ⟨m4, rfl, hm, st⟩)
          · rw [if_neg (not_true hc)] at hr
            refine WO_fact (t := 32) (b := false) (decide (y2.2.1 ≤ (ByteArray.size y1 : Int))) (by kernel_rfl) hc ?_
            refine WO_seg 3 [(2, .bool false)] (by kernel_rfl) (by kernel_rfl) ?_
            obtain rfl := Option.some.inj hr
            exact WO_env _ (by kernel_rfl) (K _ _ ⟨m2, rfl, hm, st⟩)
        · rw [if_neg (not_true hc)] at hr
          refine WO_fact (t := 26) (b := false) (decide (y2.2.1 ≥ 0)) (by kernel_rfl) hc ?_
          refine WO_seg 9 [(2, .bool false)] (by kernel_rfl) (by kernel_rfl) ?_
          obtain rfl := Option.some.inj hr
          exact WO_env _ (by kernel_rfl) (K _ _ ⟨m2, rfl, hm, st⟩)
      · rw [if_neg (not_true hc)] at hr
        refine WO_fact (t := 22) (b := false) ((List.length y2.1 : Int) == 0) (by kernel_rfl) hc ?_
        refine WO_seg 13 [(2, .bool false)] (by kernel_rfl) (by kernel_rfl) ?_
        obtain rfl := Option.some.inj hr
        exact WO_env _ (by kernel_rfl) (K _ _ ⟨m2, rfl, hm, st⟩)
  · intro hc
    rw [if_neg (not_true hc)] at hr
    refine W_skip ?_
    refine X_then ?_
    refine W_seq ?_
    refine W_region ?_
    refine WO_seg 1 [(6, .int .i64 0)] (by kernel_rfl) (by kernel_rfl) ?_
    refine WO_end rfl ?_
    refine X_then ?_
    refine W_seq ?_
    refine W_seq ?_
    refine W_region ?_
    refine WO_seg 3 [(35, .slice a1 (List.length y2.1) c1), (36, .int .i64 (List.length y2.1 : Int)), (37, .int .i64 0)] (by kernel_rfl) (by kernel_rfl) ?_
    refine WO_end rfl ?_
    refine X_then ?_
    refine W_block ?_
    replace hr := bindS hr
    obtain ⟨out1, hr, hrKu2⟩ := hr
    refine W_cut (.exit 0) (fun L' w' => ∃ (o2 : Unit) (m5 : Mem), (.inl o2) = out1 ∧ L' = [(3, .slice a1 (List.length y2.1) c1)] ∧ m.le m5 ∧ St m5 (.room a1 (List.length y2.1) c1 42 4 :: own) w' ∧ RepS (cPair (cInt .i64) (cPair cStr (cPair (cInt .i64) (cInt .i64)))) m5 a1 c1 y2.1) ?_ ?_
    · clear hr st
      rintro _ w5 ⟨o2, m5, rfl, rfl, hm, st, r1⟩
      have hr := hrKu2
      clear hrKu2
      dsimp only at hr
      refine X_block_eq ?_
      refine X_then ?_
      refine W_seq ?_
      refine W_region ?_
      replace hr := bindS hr
      obtain ⟨o6, hr, hrK⟩ := hr
      refine WO_cut (j := 7) (fun L' w' => ∃ (m10 : Mem), L' = [(2, .bool o6)] ∧ m.le m10 ∧ St m10 (.room a1 (List.length y2.1) c1 42 4 :: own) w') ?_ ?_
      · clear hr st
        have hr := hrK
        clear hrK
        rintro _ w13 ⟨m10, rfl, hm, st⟩
        refine WO_end rfl ?_
        refine X_then ?_
        refine W_ret ?_
        obtain rfl := Option.some.inj hr
        refine X_ret [.tmp 2] [.bool o6] rfl (ResAll.cons (ResAt.tmp (by kernel_rfl)) ResAll.nil) ?_
        have st := st.tail
        exact ⟨m10, rfl, hm, st⟩
      · intro K
        clear hrK
        refine WO_seg 4 [(109, .bool (decide ((List.length y2.1 : Int) > 0)))] (by kernel_rfl) (by kernel_rfl) ?_
        rcases bcases (decide ((List.length y2.1 : Int) > 0)) with hc | hc
        · rw [if_pos hc] at hr
          refine WO_fact (t := 109) (b := true) (decide ((List.length y2.1 : Int) > 0)) (by kernel_rfl) hc ?_
          replace hr := bindS hr
          obtain ⟨y4, hx7, hr⟩ := hr
          refine WO_one rfl (One_fn 110 19 #[] (by kernel_rfl) rfl ?_)
          refine (testgatelaw04_awake_ok st hx7).mono ?_
          clear st
          rintro _ w14 ⟨m11, rfl, hle4, st⟩
          refine ⟨_, rfl, ?_⟩
          have hm := Mem.le_trans hm hle4
          have r1 := r1.mono hle4
          refine WO_seg 2 [(2, .bool y4)] (by kernel_rfl) (by kernel_rfl) ?_
          obtain rfl := Option.some.inj hr
          exact WO_env _ (by kernel_rfl) (K _ _ ⟨m11, rfl, hm, st⟩)
        · rw [if_neg (not_true hc)] at hr
          refine WO_fact (t := 109) (b := false) (decide ((List.length y2.1 : Int) > 0)) (by kernel_rfl) hc ?_
          refine WO_seg 3 [(2, .bool false)] (by kernel_rfl) (by kernel_rfl) ?_
          obtain rfl := Option.some.inj hr
          exact WO_env _ (by kernel_rfl) (K _ _ ⟨m5, rfl, hm, st⟩)
    intro K0_u2
    refine W_env _ (by kernel_rfl) (W_loop (fun k1 L' w' => ∃ (s1 : Int × Int) (m6 : Mem), loopM (testgatelaw04_LexerPlaces_L1 N y1 y2) k1 s1 = some out1 ∧ L' = [(0, .string y1), (3, .slice a1 (List.length y2.1) c1), (6, .int .i64 s1.1), (35, .slice a1 (List.length y2.1) c1), (36, .int .i64 (List.length y2.1 : Int)), (37, .int .i64 s1.2)] ∧ m.le m6 ∧ St m6 (.room a1 (List.length y2.1) c1 42 4 :: own) w' ∧ RepS (cPair (cInt .i64) (cPair cStr (cPair (cInt .i64) (cInt .i64)))) m6 a1 c1 y2.1) N ⟨(0, 0), m2, hr, rfl, hm, st, r1⟩ ?_)
    clear st hr
    rintro k1 _ w6 ⟨s1, m6, hL, rfl, hm, st, r1⟩
    rcases k1 with _ | k1
    · exact loopM_zero hL
    · obtain ⟨qu2, hr, hSu2, hBu2⟩ := loopM_succ hL
      clear hL
      unfold testgatelaw04_LexerPlaces_L1 at hr
      refine W_seq ?_
      refine W_region ?_
      refine WO_seg 1 [(38, .bool (decide (s1.2 < (List.length y2.1 : Int))))] (by kernel_rfl) (by kernel_rfl) ?_
      refine WO_end rfl ?_
      refine X_then ?_
      refine W_seq ?_
      refine W_cond (decide (s1.2 < (List.length y2.1 : Int))) (by kernel_rfl) ?_ ?_
      · intro hc
        rw [if_pos hc] at hr
        refine W_skip ?_
        refine X_then ?_
        refine W_seq ?_
        replace hr := bindS hr
        obtain ⟨qu3, hr, hrKu3⟩ := hr
        refine W_cut .normal (fun L' w' => ∃ (o3 : Int) (m7 : Mem), (.inl o3 : (Int) ⊕ ((Int × Int) ⊕ ((Unit) ⊕ (Bool)))) = qu3 ∧ L' = [(0, .string y1), (3, .slice a1 (List.length y2.1) c1), (6, .int .i64 o3), (35, .slice a1 (List.length y2.1) c1), (36, .int .i64 (List.length y2.1 : Int)), (37, .int .i64 s1.2)] ∧ m.le m7 ∧ St m7 (.room a1 (List.length y2.1) c1 42 4 :: own) w' ∧ RepS (cPair (cInt .i64) (cPair cStr (cPair (cInt .i64) (cInt .i64)))) m7 a1 c1 y2.1) ?_ ?_
        · clear hr st
          rintro _ w7 ⟨o3, m7, rfl, rfl, hm, st, r1⟩
          have hr := hrKu3
          clear hrKu3
          dsimp only at hr
          refine X_then ?_
          refine W_region ?_
          refine WO_seg 2 [(37, .int .i64 (IntKind.wrap .i64 (s1.2 + 1)))] (by kernel_rfl) (by kernel_rfl) ?_
          refine WO_end rfl ?_
          obtain rfl := Option.some.inj hr
          have hL := hSu2 _ rfl
          exact X_env _ (by kernel_rfl) (X_round k1 (Nat.lt_succ_self _) ⟨(o3, IntKind.wrap .i64 (s1.2 + 1)), m7, hL, rfl, hm, st, r1⟩)
        · intro Ku3
          refine W_block ?_
          refine W_seq ?_
          refine W_region ?_
          refine WO_seg 1 [(39, .int .i64 s1.2)] (by kernel_rfl) (by kernel_rfl) ?_
          replace hr := bindS hr
          obtain ⟨x1, hx4, hr⟩ := hr
          refine WO_one rfl (One_index (d := 40) (t := 37) (e := 42) (x := (.tmp 35)) (y := (.tmp 37)) (cPair (cInt .i64) (cPair cStr (cPair (cInt .i64) (cInt .i64)))) (by kernel_rfl) rfl (show evL _ _ = some (.slice a1 (List.length y2.1) c1) from (by kernel_rfl)) (show evL _ _ = some (.int .i64 s1.2) from (by kernel_rfl)) (by kernel_rfl) r1 hx4 ?_)
          rintro b1 f1 cs1 ⟨_, _, rfl, rfl, ⟨_, _, rfl, rfl, ⟨_, _, rfl, rfl, rfl⟩⟩⟩ hq1
          refine WO_one rfl (One_load_row (d := 41) (t := 42) (x := (.tmp 40)) (.agg #[.int .i64 x1.1, .string x1.2.1, .int .i64 x1.2.2.1, .int .i64 x1.2.2.2]) (by kernel_rfl) rfl (show evL _ _ = some (.pointer (some ⟨b1, f1, none⟩)) from (by kernel_rfl)) st hq1 (by kernel_rfl) ?_)
          refine WO_one rfl (One_alloc (d := 8) (e := 42) (.agg #[.int .i64 0, .string (⟨#[]⟩ : ByteArray), .int .i64 0, .int .i64 0]) (by kernel_rfl) rfl (by kernel_rfl) st ?_)
          clear st
          intro b2 w8 st
          refine WO_seg 1 [(7, .int .i64 s1.2)] (by kernel_rfl) (by kernel_rfl) ?_
          refine WO_one rfl (One_store (t := 42) (x := (.tmp 8)) (y := (.tmp 41)) (v := .agg #[.int .i64 x1.1, .string x1.2.1, .int .i64 x1.2.2.1, .int .i64 x1.2.2.2]) (c' := #[.int .i64 x1.1, .string x1.2.1, .int .i64 x1.2.2.1, .int .i64 x1.2.2.2]) (by kernel_rfl) (show evL _ _ = some (.pointer (some ⟨b2, 0, none⟩)) from (by kernel_rfl)) (show evL _ _ = some (.agg #[.int .i64 x1.1, .string x1.2.1, .int .i64 x1.2.2.1, .int .i64 x1.2.2.2]) from (by kernel_rfl)) st (by kernel_rfl) (by kernel_rfl) ?_)
          clear st
          intro w9 st
          refine WO_end rfl ?_
          refine X_then ?_
          refine W_seq ?_
          refine W_seq ?_
          refine W_region ?_
          replace hr := bindS hr
          obtain ⟨o4, hr, hrK⟩ := hr
          refine WO_cut (j := 22) (fun L' w' => ∃ (m8 : Mem), L' = [(0, .string y1), (3, .slice a1 (List.length y2.1) c1), (8, .pointer (some ⟨b2, 0, none⟩)), (35, .slice a1 (List.length y2.1) c1), (36, .int .i64 (List.length y2.1 : Int)), (37, .int .i64 s1.2), (63, .bool o4)] ∧ m.le m8 ∧ St m8 (.blk b2 (.cells #[.int .i64 x1.1, .string x1.2.1, .int .i64 x1.2.2.1, .int .i64 x1.2.2.2] 42 (0, 0)) :: .room a1 (List.length y2.1) c1 42 4 :: own) w' ∧ RepS (cPair (cInt .i64) (cPair cStr (cPair (cInt .i64) (cInt .i64)))) m8 a1 c1 y2.1) ?_ ?_
          · clear hr st
            have hr := hrK
            clear hrK
            rintro _ w10 ⟨m8, rfl, hm, st, r1⟩
            refine WO_end rfl ?_
            refine X_then ?_
            refine W_cond o4 (by kernel_rfl) ?_ ?_
            · intro hc
              rw [if_pos hc] at hr
              refine W_seq ?_
              refine W_region ?_
              refine WO_seg 1 [(2, .bool false)] (by kernel_rfl) (by kernel_rfl) ?_
              refine WO_end rfl ?_
              have st := st.front1
              have st := st.tail
              refine X_then ?_
              refine W_ret ?_
              refine X_then_ret ?_
              refine X_block_ret ?_
              replace hr := Option.map_eq_some_iff.1 hr
              obtain ⟨zu3, hr, hzu3⟩ := hr
              subst hzu3
              have hrKu3 := Option.some.inj hrKu3
              subst hrKu3
              refine X_then_ret ?_
              obtain rfl := Option.some.inj hr
              have ho := hBu2 _ rfl
              subst ho
              have hr := hrKu2
              dsimp only at hr
              refine X_then_ret ?_
              refine X_block_ret ?_
              refine X_then_ret ?_
              obtain rfl := Option.some.inj hr
              refine X_ret [.tmp 2] [.bool false] rfl (ResAll.cons (ResAt.tmp (by kernel_rfl)) ResAll.nil) ?_
              have st := st.tail
              exact ⟨m8, rfl, hm, st⟩
            · intro hc
              rw [if_neg (not_true hc)] at hr
              refine W_skip ?_
              refine X_then ?_
              refine W_seq ?_
              refine W_region ?_
              refine WO_seg 1 [(64, .pointer (some ⟨b2, 3, none⟩))] (by kernel_rfl) (by kernel_rfl) ?_
              refine WO_one rfl (One_load_own (d := 65) (t := 3) (x := (.tmp 64)) (.int .i64 x1.2.2.2) (by kernel_rfl) rfl (show evL _ _ = some (.pointer (some ⟨b2, 3, none⟩)) from (by kernel_rfl)) st.head (by kernel_rfl) ?_)
              refine WO_seg 1 [(66, .pointer (some ⟨b2, 1, none⟩))] (by kernel_rfl) (by kernel_rfl) ?_
              refine WO_one rfl (One_load_own (d := 67) (t := 9) (x := (.tmp 66)) (.string x1.2.1) (by kernel_rfl) rfl (show evL _ _ = some (.pointer (some ⟨b2, 1, none⟩)) from (by kernel_rfl)) st.head (by kernel_rfl) ?_)
              refine WO_seg 3 [(6, .int .i64 (IntKind.wrap .i64 (x1.2.2.2 + (ByteArray.size x1.2.1 : Int))))] (by kernel_rfl) (by kernel_rfl) ?_
              refine WO_end rfl ?_
              refine X_then ?_
              refine W_seq ?_
              refine W_seq ?_
              replace hr := bindS hr
              obtain ⟨o5, hr, hrK⟩ := hr
              refine W_cut .normal (fun L' w' => ∃ (m9 : Mem), L' = [(0, .string y1), (3, .slice a1 (List.length y2.1) c1), (6, .int .i64 (IntKind.wrap .i64 (x1.2.2.2 + (ByteArray.size x1.2.1 : Int)))), (8, .pointer (some ⟨b2, 0, none⟩)), (35, .slice a1 (List.length y2.1) c1), (36, .int .i64 (List.length y2.1 : Int)), (37, .int .i64 s1.2), (99, .bool o5)] ∧ m.le m9 ∧ St m9 (.blk b2 (.cells #[.int .i64 x1.1, .string x1.2.1, .int .i64 x1.2.2.1, .int .i64 x1.2.2.2] 42 (0, 0)) :: .room a1 (List.length y2.1) c1 42 4 :: own) w' ∧ RepS (cPair (cInt .i64) (cPair cStr (cPair (cInt .i64) (cInt .i64)))) m9 a1 c1 y2.1) ?_ ?_
              · clear hr st
                have hr := hrK
                clear hrK
                rintro _ w11 ⟨m9, rfl, hm, st, r1⟩
                refine X_then ?_
                refine W_cond o5 (by kernel_rfl) ?_ ?_
                · intro hc
                  rw [if_pos hc] at hr
                  refine W_seq ?_
                  refine W_region ?_
                  refine WO_seg 1 [(2, .bool false)] (by kernel_rfl) (by kernel_rfl) ?_
                  refine WO_end rfl ?_
                  have st := st.front1
                  have st := st.tail
                  refine X_then ?_
                  refine W_ret ?_
                  refine X_then_ret ?_
                  refine X_block_ret ?_
                  replace hr := Option.map_eq_some_iff.1 hr
                  obtain ⟨zu3, hr, hzu3⟩ := hr
                  subst hzu3
                  have hrKu3 := Option.some.inj hrKu3
                  subst hrKu3
                  refine X_then_ret ?_
                  obtain rfl := Option.some.inj hr
                  have ho := hBu2 _ rfl
                  subst ho
                  have hr := hrKu2
                  dsimp only at hr
                  refine X_then_ret ?_
                  refine X_block_ret ?_
                  refine X_then_ret ?_
                  obtain rfl := Option.some.inj hr
                  refine X_ret [.tmp 2] [.bool false] rfl (ResAll.cons (ResAt.tmp (by kernel_rfl)) ResAll.nil) ?_
                  have st := st.tail
                  exact ⟨m9, rfl, hm, st⟩
                · intro hc
                  rw [if_neg (not_true hc)] at hr
                  refine W_skip ?_
                  refine X_then ?_
                  refine W_seq ?_
                  refine W_region ?_
                  refine WO_seg 1 [(100, .pointer (some ⟨b2, 0, none⟩))] (by kernel_rfl) (by kernel_rfl) ?_
                  refine WO_one rfl (One_load_own (d := 101) (t := 3) (x := (.tmp 100)) (.int .i64 x1.1) (by kernel_rfl) rfl (show evL _ _ = some (.pointer (some ⟨b2, 0, none⟩)) from (by kernel_rfl)) st.head (by kernel_rfl) ?_)
                  refine WO_seg 1 [(102, .bool (x1.1 == 2))] (by kernel_rfl) (by kernel_rfl) ?_
                  refine WO_end rfl ?_
                  refine X_then ?_
                  refine W_cond (x1.1 == 2) (by kernel_rfl) ?_ ?_
                  · intro hc
                    rw [if_pos hc] at hr
                    refine W_region ?_
                    refine WO_seg 3 [(6, .int .i64 (IntKind.wrap .i64 ((IntKind.wrap .i64 (x1.2.2.2 + (ByteArray.size x1.2.1 : Int))) + 1)))] (by kernel_rfl) (by kernel_rfl) ?_
                    refine WO_end rfl ?_
                    refine X_block ?_
                    have hqu3 := Option.some.inj hr
                    have st := st.tail
                    exact X_env _ (by kernel_rfl) (Ku3 _ _ ⟨IntKind.wrap .i64 ((IntKind.wrap .i64 (x1.2.2.2 + (ByteArray.size x1.2.1 : Int))) + 1), m9, hqu3, rfl, hm, st, r1⟩)
                  · intro hc
                    rw [if_neg (not_true hc)] at hr
                    refine W_skip ?_
                    refine X_block ?_
                    have hqu3 := Option.some.inj hr
                    have st := st.tail
                    exact X_env _ (by kernel_rfl) (Ku3 _ _ ⟨IntKind.wrap .i64 (x1.2.2.2 + (ByteArray.size x1.2.1 : Int)), m9, hqu3, rfl, hm, st, r1⟩)
              · intro K
                clear hrK
                refine W_draw [(30, fun w' => Inv m8 w' ∧ Piece.holds m8 w' (.blk b2 (.cells #[.int .i64 x1.1, .string x1.2.1, .int .i64 x1.2.2.1, .int .i64 x1.2.2.2] 42 (0, 0))) ∧ True)] (by kernel_rfl) st ?_
                clear st
                intro w12 _ st
                have hmS1 := m8.le_refl
                refine ⟨⟨.inr ⟨Inv.anti st.inv hmS1, Piece.holds_anti st.head hmS1, trivial⟩, trivial⟩, ?_⟩
                refine WA_pure 0 70 (.pointer (some ⟨b2, 0, none⟩)) (by kernel_rfl) rfl (by kernel_rfl) (.head _) (QP_then (QP_then (QP_block (QP_then (QP_then (QP_block (QP_then QP_body))))))) ?_
                refine WA_load_own (t := 3) (x := (.tmp 70)) 1 71 (.int .i64 x1.1) (by kernel_rfl) rfl (by kernel_rfl) (.head _) (QP_then (QP_then (QP_block (QP_then (QP_then (QP_block (QP_then QP_body))))))) (fun _ h => h.2.1) (show evL _ _ = some (.pointer (some ⟨b2, 0, none⟩)) from (by kernel_rfl)) (by kernel_rfl) ?_
                refine WA_pure 2 72 (.bool (x1.1 == 1)) (by kernel_rfl) rfl (by kernel_rfl) (.head _) (QP_then (QP_then (QP_block (QP_then (QP_then (QP_block (QP_then QP_body))))))) ?_
                refine WA_pure 3 73 (.bool (x1.1 == 1)) (by kernel_rfl) rfl (by kernel_rfl) (.head _) (QP_then (QP_then (QP_block (QP_then (QP_then (QP_block (QP_then QP_body))))))) ?_
                rcases bcases (x1.1 == 1) with hc | hc
                · rw [if_pos hc] at hr
                  refine WA_fact (t := 73) (b := true) (x1.1 == 1) (by kernel_rfl) hc ?_
                  refine WA_not 4 74 (by kernel_rfl) rfl (by kernel_rfl) (.head _) (QP_then (QP_then (QP_block (QP_then (QP_then (QP_block (QP_then QP_body))))))) ?_
                  refine WA_not 5 75 (by kernel_rfl) rfl (by kernel_rfl) (.head _) (QP_then (QP_then (QP_block (QP_then (QP_then (QP_block (QP_then QP_body))))))) ?_
                  refine WA_not 6 76 (by kernel_rfl) rfl (by kernel_rfl) (.head _) (QP_then (QP_then (QP_block (QP_then (QP_then (QP_block (QP_then QP_body))))))) ?_
                  refine WA_pure 7 77 (.bool true) (by kernel_rfl) rfl (by kernel_rfl) (.head _) (QP_then (QP_then (QP_block (QP_then (QP_then (QP_block (QP_then QP_body))))))) ?_
                  refine WA_pure 8 78 (.bool true) (by kernel_rfl) rfl (by kernel_rfl) (.head _) (QP_then (QP_then (QP_block (QP_then (QP_then (QP_block (QP_then QP_body))))))) ?_
                  refine WA_pure 9 79 (.int .i64 (IntKind.wrap .i64 (x1.2.2.2 + (ByteArray.size x1.2.1 : Int)))) (by kernel_rfl) rfl (by kernel_rfl) (.head _) (QP_then (QP_then (QP_block (QP_then (QP_then (QP_block (QP_then QP_body))))))) ?_
                  refine WA_pure 10 80 (.string y1) (by kernel_rfl) rfl (by kernel_rfl) (.head _) (QP_then (QP_then (QP_block (QP_then (QP_then (QP_block (QP_then QP_body))))))) ?_
                  refine WA_pure 11 81 (.int .i64 (ByteArray.size y1 : Int)) (by kernel_rfl) rfl (by kernel_rfl) (.head _) (QP_then (QP_then (QP_block (QP_then (QP_then (QP_block (QP_then QP_body))))))) ?_
                  refine WA_pure 12 82 (.bool (decide ((IntKind.wrap .i64 (x1.2.2.2 + (ByteArray.size x1.2.1 : Int))) > (ByteArray.size y1 : Int)))) (by kernel_rfl) rfl (by kernel_rfl) (.head _) (QP_then (QP_then (QP_block (QP_then (QP_then (QP_block (QP_then QP_body))))))) ?_
                  refine WA_pure 13 83 (.bool (decide ((IntKind.wrap .i64 (x1.2.2.2 + (ByteArray.size x1.2.1 : Int))) > (ByteArray.size y1 : Int)))) (by kernel_rfl) rfl (by kernel_rfl) (.head _) (QP_then (QP_then (QP_block (QP_then (QP_then (QP_block (QP_then QP_body))))))) ?_
                  rcases bcases (decide ((IntKind.wrap .i64 (x1.2.2.2 + (ByteArray.size x1.2.1 : Int))) > (ByteArray.size y1 : Int))) with hc | hc
                  · rw [if_pos hc] at hr
                    refine WA_fact (t := 83) (b := true) (decide ((IntKind.wrap .i64 (x1.2.2.2 + (ByteArray.size x1.2.1 : Int))) > (ByteArray.size y1 : Int))) (by kernel_rfl) hc ?_
                    refine WA_not 14 84 (by kernel_rfl) rfl (by kernel_rfl) (.head _) (QP_then (QP_then (QP_block (QP_then (QP_then (QP_block (QP_then QP_body))))))) ?_
                    refine WA_not 15 85 (by kernel_rfl) rfl (by kernel_rfl) (.head _) (QP_then (QP_then (QP_block (QP_then (QP_then (QP_block (QP_then QP_body))))))) ?_
                    refine WA_not 16 86 (by kernel_rfl) rfl (by kernel_rfl) (.head _) (QP_then (QP_then (QP_block (QP_then (QP_then (QP_block (QP_then QP_body))))))) ?_
                    refine WA_not 17 87 (by kernel_rfl) rfl (by kernel_rfl) (.head _) (QP_then (QP_then (QP_block (QP_then (QP_then (QP_block (QP_then QP_body))))))) ?_
                    refine WA_not 18 88 (by kernel_rfl) rfl (by kernel_rfl) (.head _) (QP_then (QP_then (QP_block (QP_then (QP_then (QP_block (QP_then QP_body))))))) ?_
                    refine WA_not 19 89 (by kernel_rfl) rfl (by kernel_rfl) (.head _) (QP_then (QP_then (QP_block (QP_then (QP_then (QP_block (QP_then QP_body))))))) ?_
                    refine WA_not 20 90 (by kernel_rfl) rfl (by kernel_rfl) (.head _) (QP_then (QP_then (QP_block (QP_then (QP_then (QP_block (QP_then QP_body))))))) ?_
                    refine WA_not 21 91 (by kernel_rfl) rfl (by kernel_rfl) (.head _) (QP_then (QP_then (QP_block (QP_then (QP_then (QP_block (QP_then QP_body))))))) ?_
                    refine WA_pure 22 92 (.bool true) (by kernel_rfl) rfl (by kernel_rfl) (.head _) (QP_then (QP_then (QP_block (QP_then (QP_then (QP_block (QP_then QP_body))))))) ?_
                    refine WA_pure 23 93 (.bool true) (by kernel_rfl) rfl (by kernel_rfl) (.head _) (QP_then (QP_then (QP_block (QP_then (QP_then (QP_block (QP_then QP_body))))))) ?_
                    refine WA_not 24 94 (by kernel_rfl) rfl (by kernel_rfl) (.head _) (QP_then (QP_then (QP_block (QP_then (QP_then (QP_block (QP_then QP_body))))))) ?_
                    refine WA_not 25 95 (by kernel_rfl) rfl (by kernel_rfl) (.head _) (QP_then (QP_then (QP_block (QP_then (QP_then (QP_block (QP_then QP_body))))))) ?_
                    refine WA_not 26 96 (by kernel_rfl) rfl (by kernel_rfl) (.head _) (QP_then (QP_then (QP_block (QP_then (QP_then (QP_block (QP_then QP_body))))))) ?_
                    refine WA_not 27 97 (by kernel_rfl) rfl (by kernel_rfl) (.head _) (QP_then (QP_then (QP_block (QP_then (QP_then (QP_block (QP_then QP_body))))))) ?_
                    refine WA_pure 28 98 (.bool true) (by kernel_rfl) rfl (by kernel_rfl) (.head _) (QP_then (QP_then (QP_block (QP_then (QP_then (QP_block (QP_then QP_body))))))) ?_
                    refine WA_pure 29 99 (.bool true) (by kernel_rfl) rfl (by kernel_rfl) (.head _) (QP_then (QP_then (QP_block (QP_then (QP_then (QP_block (QP_then QP_body))))))) ?_
                    obtain rfl := Option.some.inj hr
                    have st := st.front1
                    have st := st.front1
                    exact WA_done (by kernel_rfl) (X_env _ (by kernel_rfl) (K _ _ ⟨m8, rfl, hm, st, r1⟩))
                  · rw [if_neg (not_true hc)] at hr
                    refine WA_fact (t := 83) (b := false) (decide ((IntKind.wrap .i64 (x1.2.2.2 + (ByteArray.size x1.2.1 : Int))) > (ByteArray.size y1 : Int))) (by kernel_rfl) hc ?_
                    refine WA_pure 14 84 (.string y1) (by kernel_rfl) rfl (by kernel_rfl) (.head _) (QP_then (QP_then (QP_block (QP_then (QP_then (QP_block (QP_then QP_body))))))) ?_
                    refine WA_pure 15 85 (.pointer (some ⟨b2, 3, none⟩)) (by kernel_rfl) rfl (by kernel_rfl) (.head _) (QP_then (QP_then (QP_block (QP_then (QP_then (QP_block (QP_then QP_body))))))) ?_
                    refine WA_load_own (t := 3) (x := (.tmp 85)) 16 86 (.int .i64 x1.2.2.2) (by kernel_rfl) rfl (by kernel_rfl) (.head _) (QP_then (QP_then (QP_block (QP_then (QP_then (QP_block (QP_then QP_body))))))) (fun _ h => h.2.1) (show evL _ _ = some (.pointer (some ⟨b2, 3, none⟩)) from (by kernel_rfl)) (by kernel_rfl) ?_
                    refine WA_pure 17 87 (.int .i64 (IntKind.wrap .i64 (x1.2.2.2 + (ByteArray.size x1.2.1 : Int)))) (by kernel_rfl) rfl (by kernel_rfl) (.head _) (QP_then (QP_then (QP_block (QP_then (QP_then (QP_block (QP_then QP_body))))))) ?_
                    refine WA_pure 19 89 (.pointer (some ⟨b2, 1, none⟩)) (by kernel_rfl) rfl (by kernel_rfl) (.head _) (QP_then (QP_then (QP_block (QP_then (QP_then (QP_block (QP_then QP_body))))))) ?_
                    refine WA_load_own (t := 9) (x := (.tmp 89)) 20 90 (.string x1.2.1) (by kernel_rfl) rfl (by kernel_rfl) (.head _) (QP_then (QP_then (QP_block (QP_then (QP_then (QP_block (QP_then QP_body))))))) (fun _ h => h.2.1) (show evL _ _ = some (.pointer (some ⟨b2, 1, none⟩)) from (by kernel_rfl)) (by kernel_rfl) ?_
                    replace hr := bindS hr
                    obtain ⟨s2, hx5, hr⟩ := hr
                    refine WA_one 18 (by kernel_rfl)  (One_strSlice (d := 88) (t := 9) (x := (.tmp 84)) (lo := (some (.tmp 86))) (hi := (some (.tmp 87))) (by kernel_rfl) rfl (show evL _ _ = some (.string y1) from (by kernel_rfl)) (by kernel_rfl) (.inr ⟨_, _, rfl, (show evL _ _ = some (.int .i64 x1.2.2.2) from (by kernel_rfl))⟩) (.inr ⟨_, _, rfl, (show evL _ _ = some (.int .i64 (IntKind.wrap .i64 (x1.2.2.2 + (ByteArray.size x1.2.1 : Int)))) from (by kernel_rfl))⟩) hx5 ?_)
                    refine ⟨⟨.inr ⟨Inv.anti st.inv hmS1, Piece.holds_anti st.head hmS1, trivial⟩, trivial⟩, ?_⟩
                    refine WA_pure 21 91 (.bool (!(s2.toList == x1.2.1.toList))) (by kernel_rfl) rfl (by kernel_rfl) (.head _) (QP_then (QP_then (QP_block (QP_then (QP_then (QP_block (QP_then QP_body))))))) ?_
                    refine WA_pure 22 92 (.bool (!(s2.toList == x1.2.1.toList))) (by kernel_rfl) rfl (by kernel_rfl) (.head _) (QP_then (QP_then (QP_block (QP_then (QP_then (QP_block (QP_then QP_body))))))) ?_
                    refine WA_pure 23 93 (.bool (!(s2.toList == x1.2.1.toList))) (by kernel_rfl) rfl (by kernel_rfl) (.head _) (QP_then (QP_then (QP_block (QP_then (QP_then (QP_block (QP_then QP_body))))))) ?_
                    rcases bcases (!(s2.toList == x1.2.1.toList)) with hc | hc
                    · rw [if_pos hc] at hr
                      refine WA_fact (t := 93) (b := true) (!(s2.toList == x1.2.1.toList)) (by kernel_rfl) hc ?_
                      refine WA_not 24 94 (by kernel_rfl) rfl (by kernel_rfl) (.head _) (QP_then (QP_then (QP_block (QP_then (QP_then (QP_block (QP_then QP_body))))))) ?_
                      refine WA_not 25 95 (by kernel_rfl) rfl (by kernel_rfl) (.head _) (QP_then (QP_then (QP_block (QP_then (QP_then (QP_block (QP_then QP_body))))))) ?_
                      refine WA_not 26 96 (by kernel_rfl) rfl (by kernel_rfl) (.head _) (QP_then (QP_then (QP_block (QP_then (QP_then (QP_block (QP_then QP_body))))))) ?_
                      refine WA_not 27 97 (by kernel_rfl) rfl (by kernel_rfl) (.head _) (QP_then (QP_then (QP_block (QP_then (QP_then (QP_block (QP_then QP_body))))))) ?_
                      refine WA_pure 28 98 (.bool true) (by kernel_rfl) rfl (by kernel_rfl) (.head _) (QP_then (QP_then (QP_block (QP_then (QP_then (QP_block (QP_then QP_body))))))) ?_
                      refine WA_pure 29 99 (.bool true) (by kernel_rfl) rfl (by kernel_rfl) (.head _) (QP_then (QP_then (QP_block (QP_then (QP_then (QP_block (QP_then QP_body))))))) ?_
                      obtain rfl := Option.some.inj hr
                      have st := st.front1
                      have st := st.front1
                      exact WA_done (by kernel_rfl) (X_env _ (by kernel_rfl) (K _ _ ⟨m8, rfl, hm, st, r1⟩))
                    · rw [if_neg (not_true hc)] at hr
                      refine WA_fact (t := 93) (b := false) (!(s2.toList == x1.2.1.toList)) (by kernel_rfl) hc ?_
                      refine WA_pure 24 94 (.pointer (some ⟨b2, 1, none⟩)) (by kernel_rfl) rfl (by kernel_rfl) (.head _) (QP_then (QP_then (QP_block (QP_then (QP_then (QP_block (QP_then QP_body))))))) ?_
                      refine WA_load_own (t := 9) (x := (.tmp 94)) 25 95 (.string x1.2.1) (by kernel_rfl) rfl (by kernel_rfl) (.head _) (QP_then (QP_then (QP_block (QP_then (QP_then (QP_block (QP_then QP_body))))))) (fun _ h => h.2.1) (show evL _ _ = some (.pointer (some ⟨b2, 1, none⟩)) from (by kernel_rfl)) (by kernel_rfl) ?_
                      refine WA_pure 26 96 (.int .i64 (ByteArray.size x1.2.1 : Int)) (by kernel_rfl) rfl (by kernel_rfl) (.head _) (QP_then (QP_then (QP_block (QP_then (QP_then (QP_block (QP_then QP_body))))))) ?_
                      refine WA_pure 27 97 (.bool ((ByteArray.size x1.2.1 : Int) == 0)) (by kernel_rfl) rfl (by kernel_rfl) (.head _) (QP_then (QP_then (QP_block (QP_then (QP_then (QP_block (QP_then QP_body))))))) ?_
                      refine WA_pure 28 98 (.bool ((ByteArray.size x1.2.1 : Int) == 0)) (by kernel_rfl) rfl (by kernel_rfl) (.head _) (QP_then (QP_then (QP_block (QP_then (QP_then (QP_block (QP_then QP_body))))))) ?_
                      refine WA_pure 29 99 (.bool ((ByteArray.size x1.2.1 : Int) == 0)) (by kernel_rfl) rfl (by kernel_rfl) (.head _) (QP_then (QP_then (QP_block (QP_then (QP_then (QP_block (QP_then QP_body))))))) ?_
                      obtain rfl := Option.some.inj hr
                      have st := st.front1
                      have st := st.front1
                      exact WA_done (by kernel_rfl) (X_env _ (by kernel_rfl) (K _ _ ⟨m8, rfl, hm, st, r1⟩))
                · rw [if_neg (not_true hc)] at hr
                  refine WA_fact (t := 73) (b := false) (x1.1 == 1) (by kernel_rfl) hc ?_
                  refine WA_pure 4 74 (.pointer (some ⟨b2, 0, none⟩)) (by kernel_rfl) rfl (by kernel_rfl) (.head _) (QP_then (QP_then (QP_block (QP_then (QP_then (QP_block (QP_then QP_body))))))) ?_
                  refine WA_load_own (t := 3) (x := (.tmp 74)) 5 75 (.int .i64 x1.1) (by kernel_rfl) rfl (by kernel_rfl) (.head _) (QP_then (QP_then (QP_block (QP_then (QP_then (QP_block (QP_then QP_body))))))) (fun _ h => h.2.1) (show evL _ _ = some (.pointer (some ⟨b2, 0, none⟩)) from (by kernel_rfl)) (by kernel_rfl) ?_
                  refine WA_pure 6 76 (.bool (x1.1 == 4)) (by kernel_rfl) rfl (by kernel_rfl) (.head _) (QP_then (QP_then (QP_block (QP_then (QP_then (QP_block (QP_then QP_body))))))) ?_
                  refine WA_pure 7 77 (.bool (x1.1 == 4)) (by kernel_rfl) rfl (by kernel_rfl) (.head _) (QP_then (QP_then (QP_block (QP_then (QP_then (QP_block (QP_then QP_body))))))) ?_
                  refine WA_pure 8 78 (.bool (x1.1 == 4)) (by kernel_rfl) rfl (by kernel_rfl) (.head _) (QP_then (QP_then (QP_block (QP_then (QP_then (QP_block (QP_then QP_body))))))) ?_
                  rcases bcases (x1.1 == 4) with hc | hc
                  · rw [if_pos hc] at hr
                    refine WA_fact (t := 78) (b := true) (x1.1 == 4) (by kernel_rfl) hc ?_
                    refine WA_pure 9 79 (.int .i64 (IntKind.wrap .i64 (x1.2.2.2 + (ByteArray.size x1.2.1 : Int)))) (by kernel_rfl) rfl (by kernel_rfl) (.head _) (QP_then (QP_then (QP_block (QP_then (QP_then (QP_block (QP_then QP_body))))))) ?_
                    refine WA_pure 10 80 (.string y1) (by kernel_rfl) rfl (by kernel_rfl) (.head _) (QP_then (QP_then (QP_block (QP_then (QP_then (QP_block (QP_then QP_body))))))) ?_
                    refine WA_pure 11 81 (.int .i64 (ByteArray.size y1 : Int)) (by kernel_rfl) rfl (by kernel_rfl) (.head _) (QP_then (QP_then (QP_block (QP_then (QP_then (QP_block (QP_then QP_body))))))) ?_
                    refine WA_pure 12 82 (.bool (decide ((IntKind.wrap .i64 (x1.2.2.2 + (ByteArray.size x1.2.1 : Int))) > (ByteArray.size y1 : Int)))) (by kernel_rfl) rfl (by kernel_rfl) (.head _) (QP_then (QP_then (QP_block (QP_then (QP_then (QP_block (QP_then QP_body))))))) ?_
                    refine WA_pure 13 83 (.bool (decide ((IntKind.wrap .i64 (x1.2.2.2 + (ByteArray.size x1.2.1 : Int))) > (ByteArray.size y1 : Int)))) (by kernel_rfl) rfl (by kernel_rfl) (.head _) (QP_then (QP_then (QP_block (QP_then (QP_then (QP_block (QP_then QP_body))))))) ?_
                    rcases bcases (decide ((IntKind.wrap .i64 (x1.2.2.2 + (ByteArray.size x1.2.1 : Int))) > (ByteArray.size y1 : Int))) with hc | hc
                    · rw [if_pos hc] at hr
                      refine WA_fact (t := 83) (b := true) (decide ((IntKind.wrap .i64 (x1.2.2.2 + (ByteArray.size x1.2.1 : Int))) > (ByteArray.size y1 : Int))) (by kernel_rfl) hc ?_
                      refine WA_not 14 84 (by kernel_rfl) rfl (by kernel_rfl) (.head _) (QP_then (QP_then (QP_block (QP_then (QP_then (QP_block (QP_then QP_body))))))) ?_
                      refine WA_not 15 85 (by kernel_rfl) rfl (by kernel_rfl) (.head _) (QP_then (QP_then (QP_block (QP_then (QP_then (QP_block (QP_then QP_body))))))) ?_
                      refine WA_not 16 86 (by kernel_rfl) rfl (by kernel_rfl) (.head _) (QP_then (QP_then (QP_block (QP_then (QP_then (QP_block (QP_then QP_body))))))) ?_
                      refine WA_not 17 87 (by kernel_rfl) rfl (by kernel_rfl) (.head _) (QP_then (QP_then (QP_block (QP_then (QP_then (QP_block (QP_then QP_body))))))) ?_
                      refine WA_not 18 88 (by kernel_rfl) rfl (by kernel_rfl) (.head _) (QP_then (QP_then (QP_block (QP_then (QP_then (QP_block (QP_then QP_body))))))) ?_
                      refine WA_not 19 89 (by kernel_rfl) rfl (by kernel_rfl) (.head _) (QP_then (QP_then (QP_block (QP_then (QP_then (QP_block (QP_then QP_body))))))) ?_
                      refine WA_not 20 90 (by kernel_rfl) rfl (by kernel_rfl) (.head _) (QP_then (QP_then (QP_block (QP_then (QP_then (QP_block (QP_then QP_body))))))) ?_
                      refine WA_not 21 91 (by kernel_rfl) rfl (by kernel_rfl) (.head _) (QP_then (QP_then (QP_block (QP_then (QP_then (QP_block (QP_then QP_body))))))) ?_
                      refine WA_pure 22 92 (.bool true) (by kernel_rfl) rfl (by kernel_rfl) (.head _) (QP_then (QP_then (QP_block (QP_then (QP_then (QP_block (QP_then QP_body))))))) ?_
                      refine WA_pure 23 93 (.bool true) (by kernel_rfl) rfl (by kernel_rfl) (.head _) (QP_then (QP_then (QP_block (QP_then (QP_then (QP_block (QP_then QP_body))))))) ?_
                      refine WA_not 24 94 (by kernel_rfl) rfl (by kernel_rfl) (.head _) (QP_then (QP_then (QP_block (QP_then (QP_then (QP_block (QP_then QP_body))))))) ?_
                      refine WA_not 25 95 (by kernel_rfl) rfl (by kernel_rfl) (.head _) (QP_then (QP_then (QP_block (QP_then (QP_then (QP_block (QP_then QP_body))))))) ?_
                      refine WA_not 26 96 (by kernel_rfl) rfl (by kernel_rfl) (.head _) (QP_then (QP_then (QP_block (QP_then (QP_then (QP_block (QP_then QP_body))))))) ?_
                      refine WA_not 27 97 (by kernel_rfl) rfl (by kernel_rfl) (.head _) (QP_then (QP_then (QP_block (QP_then (QP_then (QP_block (QP_then QP_body))))))) ?_
                      refine WA_pure 28 98 (.bool true) (by kernel_rfl) rfl (by kernel_rfl) (.head _) (QP_then (QP_then (QP_block (QP_then (QP_then (QP_block (QP_then QP_body))))))) ?_
                      refine WA_pure 29 99 (.bool true) (by kernel_rfl) rfl (by kernel_rfl) (.head _) (QP_then (QP_then (QP_block (QP_then (QP_then (QP_block (QP_then QP_body))))))) ?_
                      obtain rfl := Option.some.inj hr
                      have st := st.front1
                      have st := st.front1
                      exact WA_done (by kernel_rfl) (X_env _ (by kernel_rfl) (K _ _ ⟨m8, rfl, hm, st, r1⟩))
                    · rw [if_neg (not_true hc)] at hr
                      refine WA_fact (t := 83) (b := false) (decide ((IntKind.wrap .i64 (x1.2.2.2 + (ByteArray.size x1.2.1 : Int))) > (ByteArray.size y1 : Int))) (by kernel_rfl) hc ?_
                      refine WA_pure 14 84 (.string y1) (by kernel_rfl) rfl (by kernel_rfl) (.head _) (QP_then (QP_then (QP_block (QP_then (QP_then (QP_block (QP_then QP_body))))))) ?_
                      refine WA_pure 15 85 (.pointer (some ⟨b2, 3, none⟩)) (by kernel_rfl) rfl (by kernel_rfl) (.head _) (QP_then (QP_then (QP_block (QP_then (QP_then (QP_block (QP_then QP_body))))))) ?_
                      refine WA_load_own (t := 3) (x := (.tmp 85)) 16 86 (.int .i64 x1.2.2.2) (by kernel_rfl) rfl (by kernel_rfl) (.head _) (QP_then (QP_then (QP_block (QP_then (QP_then (QP_block (QP_then QP_body))))))) (fun _ h => h.2.1) (show evL _ _ = some (.pointer (some ⟨b2, 3, none⟩)) from (by kernel_rfl)) (by kernel_rfl) ?_
                      refine WA_pure 17 87 (.int .i64 (IntKind.wrap .i64 (x1.2.2.2 + (ByteArray.size x1.2.1 : Int)))) (by kernel_rfl) rfl (by kernel_rfl) (.head _) (QP_then (QP_then (QP_block (QP_then (QP_then (QP_block (QP_then QP_body))))))) ?_
                      refine WA_pure 19 89 (.pointer (some ⟨b2, 1, none⟩)) (by kernel_rfl) rfl (by kernel_rfl) (.head _) (QP_then (QP_then (QP_block (QP_then (QP_then (QP_block (QP_then QP_body))))))) ?_
                      refine WA_load_own (t := 9) (x := (.tmp 89)) 20 90 (.string x1.2.1) (by kernel_rfl) rfl (by kernel_rfl) (.head _) (QP_then (QP_then (QP_block (QP_then (QP_then (QP_block (QP_then QP_body))))))) (fun _ h => h.2.1) (show evL _ _ = some (.pointer (some ⟨b2, 1, none⟩)) from (by kernel_rfl)) (by kernel_rfl) ?_
                      replace hr := bindS hr
                      obtain ⟨s3, hx6, hr⟩ := hr
                      refine WA_one 18 (by kernel_rfl)  (One_strSlice (d := 88) (t := 9) (x := (.tmp 84)) (lo := (some (.tmp 86))) (hi := (some (.tmp 87))) (by kernel_rfl) rfl (show evL _ _ = some (.string y1) from (by kernel_rfl)) (by kernel_rfl) (.inr ⟨_, _, rfl, (show evL _ _ = some (.int .i64 x1.2.2.2) from (by kernel_rfl))⟩) (.inr ⟨_, _, rfl, (show evL _ _ = some (.int .i64 (IntKind.wrap .i64 (x1.2.2.2 + (ByteArray.size x1.2.1 : Int)))) from (by kernel_rfl))⟩) hx6 ?_)
                      refine ⟨⟨.inr ⟨Inv.anti st.inv hmS1, Piece.holds_anti st.head hmS1, trivial⟩, trivial⟩, ?_⟩
                      refine WA_pure 21 91 (.bool (!(s3.toList == x1.2.1.toList))) (by kernel_rfl) rfl (by kernel_rfl) (.head _) (QP_then (QP_then (QP_block (QP_then (QP_then (QP_block (QP_then QP_body))))))) ?_
                      refine WA_pure 22 92 (.bool (!(s3.toList == x1.2.1.toList))) (by kernel_rfl) rfl (by kernel_rfl) (.head _) (QP_then (QP_then (QP_block (QP_then (QP_then (QP_block (QP_then QP_body))))))) ?_
                      refine WA_pure 23 93 (.bool (!(s3.toList == x1.2.1.toList))) (by kernel_rfl) rfl (by kernel_rfl) (.head _) (QP_then (QP_then (QP_block (QP_then (QP_then (QP_block (QP_then QP_body))))))) ?_
                      rcases bcases (!(s3.toList == x1.2.1.toList)) with hc | hc
                      · rw [if_pos hc] at hr
                        refine WA_fact (t := 93) (b := true) (!(s3.toList == x1.2.1.toList)) (by kernel_rfl) hc ?_
                        refine WA_not 24 94 (by kernel_rfl) rfl (by kernel_rfl) (.head _) (QP_then (QP_then (QP_block (QP_then (QP_then (QP_block (QP_then QP_body))))))) ?_
                        refine WA_not 25 95 (by kernel_rfl) rfl (by kernel_rfl) (.head _) (QP_then (QP_then (QP_block (QP_then (QP_then (QP_block (QP_then QP_body))))))) ?_
                        refine WA_not 26 96 (by kernel_rfl) rfl (by kernel_rfl) (.head _) (QP_then (QP_then (QP_block (QP_then (QP_then (QP_block (QP_then QP_body))))))) ?_
                        refine WA_not 27 97 (by kernel_rfl) rfl (by kernel_rfl) (.head _) (QP_then (QP_then (QP_block (QP_then (QP_then (QP_block (QP_then QP_body))))))) ?_
                        refine WA_pure 28 98 (.bool true) (by kernel_rfl) rfl (by kernel_rfl) (.head _) (QP_then (QP_then (QP_block (QP_then (QP_then (QP_block (QP_then QP_body))))))) ?_
                        refine WA_pure 29 99 (.bool true) (by kernel_rfl) rfl (by kernel_rfl) (.head _) (QP_then (QP_then (QP_block (QP_then (QP_then (QP_block (QP_then QP_body))))))) ?_
                        obtain rfl := Option.some.inj hr
                        have st := st.front1
                        have st := st.front1
                        exact WA_done (by kernel_rfl) (X_env _ (by kernel_rfl) (K _ _ ⟨m8, rfl, hm, st, r1⟩))
                      · rw [if_neg (not_true hc)] at hr
                        refine WA_fact (t := 93) (b := false) (!(s3.toList == x1.2.1.toList)) (by kernel_rfl) hc ?_
                        refine WA_pure 24 94 (.pointer (some ⟨b2, 1, none⟩)) (by kernel_rfl) rfl (by kernel_rfl) (.head _) (QP_then (QP_then (QP_block (QP_then (QP_then (QP_block (QP_then QP_body))))))) ?_
                        refine WA_load_own (t := 9) (x := (.tmp 94)) 25 95 (.string x1.2.1) (by kernel_rfl) rfl (by kernel_rfl) (.head _) (QP_then (QP_then (QP_block (QP_then (QP_then (QP_block (QP_then QP_body))))))) (fun _ h => h.2.1) (show evL _ _ = some (.pointer (some ⟨b2, 1, none⟩)) from (by kernel_rfl)) (by kernel_rfl) ?_
                        refine WA_pure 26 96 (.int .i64 (ByteArray.size x1.2.1 : Int)) (by kernel_rfl) rfl (by kernel_rfl) (.head _) (QP_then (QP_then (QP_block (QP_then (QP_then (QP_block (QP_then QP_body))))))) ?_
                        refine WA_pure 27 97 (.bool ((ByteArray.size x1.2.1 : Int) == 0)) (by kernel_rfl) rfl (by kernel_rfl) (.head _) (QP_then (QP_then (QP_block (QP_then (QP_then (QP_block (QP_then QP_body))))))) ?_
                        refine WA_pure 28 98 (.bool ((ByteArray.size x1.2.1 : Int) == 0)) (by kernel_rfl) rfl (by kernel_rfl) (.head _) (QP_then (QP_then (QP_block (QP_then (QP_then (QP_block (QP_then QP_body))))))) ?_
                        refine WA_pure 29 99 (.bool ((ByteArray.size x1.2.1 : Int) == 0)) (by kernel_rfl) rfl (by kernel_rfl) (.head _) (QP_then (QP_then (QP_block (QP_then (QP_then (QP_block (QP_then QP_body))))))) ?_
                        obtain rfl := Option.some.inj hr
                        have st := st.front1
                        have st := st.front1
                        exact WA_done (by kernel_rfl) (X_env _ (by kernel_rfl) (K _ _ ⟨m8, rfl, hm, st, r1⟩))
                  · rw [if_neg (not_true hc)] at hr
                    refine WA_fact (t := 78) (b := false) (x1.1 == 4) (by kernel_rfl) hc ?_
                    refine WA_not 9 79 (by kernel_rfl) rfl (by kernel_rfl) (.head _) (QP_then (QP_then (QP_block (QP_then (QP_then (QP_block (QP_then QP_body))))))) ?_
                    refine WA_not 10 80 (by kernel_rfl) rfl (by kernel_rfl) (.head _) (QP_then (QP_then (QP_block (QP_then (QP_then (QP_block (QP_then QP_body))))))) ?_
                    refine WA_not 11 81 (by kernel_rfl) rfl (by kernel_rfl) (.head _) (QP_then (QP_then (QP_block (QP_then (QP_then (QP_block (QP_then QP_body))))))) ?_
                    refine WA_not 12 82 (by kernel_rfl) rfl (by kernel_rfl) (.head _) (QP_then (QP_then (QP_block (QP_then (QP_then (QP_block (QP_then QP_body))))))) ?_
                    refine WA_not 13 83 (by kernel_rfl) rfl (by kernel_rfl) (.head _) (QP_then (QP_then (QP_block (QP_then (QP_then (QP_block (QP_then QP_body))))))) ?_
                    refine WA_not 14 84 (by kernel_rfl) rfl (by kernel_rfl) (.head _) (QP_then (QP_then (QP_block (QP_then (QP_then (QP_block (QP_then QP_body))))))) ?_
                    refine WA_not 15 85 (by kernel_rfl) rfl (by kernel_rfl) (.head _) (QP_then (QP_then (QP_block (QP_then (QP_then (QP_block (QP_then QP_body))))))) ?_
                    refine WA_not 16 86 (by kernel_rfl) rfl (by kernel_rfl) (.head _) (QP_then (QP_then (QP_block (QP_then (QP_then (QP_block (QP_then QP_body))))))) ?_
                    refine WA_not 17 87 (by kernel_rfl) rfl (by kernel_rfl) (.head _) (QP_then (QP_then (QP_block (QP_then (QP_then (QP_block (QP_then QP_body))))))) ?_
                    refine WA_not 18 88 (by kernel_rfl) rfl (by kernel_rfl) (.head _) (QP_then (QP_then (QP_block (QP_then (QP_then (QP_block (QP_then QP_body))))))) ?_
                    refine WA_not 19 89 (by kernel_rfl) rfl (by kernel_rfl) (.head _) (QP_then (QP_then (QP_block (QP_then (QP_then (QP_block (QP_then QP_body))))))) ?_
                    refine WA_not 20 90 (by kernel_rfl) rfl (by kernel_rfl) (.head _) (QP_then (QP_then (QP_block (QP_then (QP_then (QP_block (QP_then QP_body))))))) ?_
                    refine WA_not 21 91 (by kernel_rfl) rfl (by kernel_rfl) (.head _) (QP_then (QP_then (QP_block (QP_then (QP_then (QP_block (QP_then QP_body))))))) ?_
                    refine WA_not 22 92 (by kernel_rfl) rfl (by kernel_rfl) (.head _) (QP_then (QP_then (QP_block (QP_then (QP_then (QP_block (QP_then QP_body))))))) ?_
                    refine WA_not 23 93 (by kernel_rfl) rfl (by kernel_rfl) (.head _) (QP_then (QP_then (QP_block (QP_then (QP_then (QP_block (QP_then QP_body))))))) ?_
                    refine WA_not 24 94 (by kernel_rfl) rfl (by kernel_rfl) (.head _) (QP_then (QP_then (QP_block (QP_then (QP_then (QP_block (QP_then QP_body))))))) ?_
                    refine WA_not 25 95 (by kernel_rfl) rfl (by kernel_rfl) (.head _) (QP_then (QP_then (QP_block (QP_then (QP_then (QP_block (QP_then QP_body))))))) ?_
                    refine WA_not 26 96 (by kernel_rfl) rfl (by kernel_rfl) (.head _) (QP_then (QP_then (QP_block (QP_then (QP_then (QP_block (QP_then QP_body))))))) ?_
                    refine WA_not 27 97 (by kernel_rfl) rfl (by kernel_rfl) (.head _) (QP_then (QP_then (QP_block (QP_then (QP_then (QP_block (QP_then QP_body))))))) ?_
                    refine WA_not 28 98 (by kernel_rfl) rfl (by kernel_rfl) (.head _) (QP_then (QP_then (QP_block (QP_then (QP_then (QP_block (QP_then QP_body))))))) ?_
                    refine WA_pure 29 99 (.bool false) (by kernel_rfl) rfl (by kernel_rfl) (.head _) (QP_then (QP_then (QP_block (QP_then (QP_then (QP_block (QP_then QP_body))))))) ?_
                    obtain rfl := Option.some.inj hr
                    have st := st.front1
                    have st := st.front1
                    exact WA_done (by kernel_rfl) (X_env _ (by kernel_rfl) (K _ _ ⟨m8, rfl, hm, st, r1⟩))
          · intro K
            clear hrK
            refine WO_seg 1 [(42, .pointer (some ⟨b2, 3, none⟩))] (by kernel_rfl) (by kernel_rfl) ?_
            refine WO_one rfl (One_load_own (d := 43) (t := 3) (x := (.tmp 42)) (.int .i64 x1.2.2.2) (by kernel_rfl) rfl (show evL _ _ = some (.pointer (some ⟨b2, 3, none⟩)) from (by kernel_rfl)) st.head (by kernel_rfl) ?_)
            refine WO_seg 3 [(46, .bool (decide (x1.2.2.2 < s1.1)))] (by kernel_rfl) (by kernel_rfl) ?_
            rcases bcases (decide (x1.2.2.2 < s1.1)) with hc | hc
            · rw [if_pos hc] at hr
              refine WO_fact (t := 46) (b := true) (decide (x1.2.2.2 < s1.1)) (by kernel_rfl) hc ?_
              refine WO_seg 17 [(63, .bool true)] (by kernel_rfl) (by kernel_rfl) ?_
              obtain rfl := Option.some.inj hr
              have st := st.front1
              have st := st.front1
              exact WO_env _ (by kernel_rfl) (K _ _ ⟨m6, rfl, hm, st, r1⟩)
            · rw [if_neg (not_true hc)] at hr
              refine WO_fact (t := 46) (b := false) (decide (x1.2.2.2 < s1.1)) (by kernel_rfl) hc ?_
              refine WO_seg 1 [(47, .pointer (some ⟨b2, 3, none⟩))] (by kernel_rfl) (by kernel_rfl) ?_
              refine WO_one rfl (One_load_own (d := 48) (t := 3) (x := (.tmp 47)) (.int .i64 x1.2.2.2) (by kernel_rfl) rfl (show evL _ _ = some (.pointer (some ⟨b2, 3, none⟩)) from (by kernel_rfl)) st.head (by kernel_rfl) ?_)
              refine WO_seg 5 [(53, .bool (decide (x1.2.2.2 > (ByteArray.size y1 : Int))))] (by kernel_rfl) (by kernel_rfl) ?_
              rcases bcases (decide (x1.2.2.2 > (ByteArray.size y1 : Int))) with hc | hc
              · rw [if_pos hc] at hr
                refine WO_fact (t := 53) (b := true) (decide (x1.2.2.2 > (ByteArray.size y1 : Int))) (by kernel_rfl) hc ?_
                refine WO_seg 10 [(63, .bool true)] (by kernel_rfl) (by kernel_rfl) ?_
                obtain rfl := Option.some.inj hr
                have st := st.front1
                have st := st.front1
                exact WO_env _ (by kernel_rfl) (K _ _ ⟨m6, rfl, hm, st, r1⟩)
              · rw [if_neg (not_true hc)] at hr
                refine WO_fact (t := 53) (b := false) (decide (x1.2.2.2 > (ByteArray.size y1 : Int))) (by kernel_rfl) hc ?_
                refine WO_seg 1 [(54, .pointer (some ⟨b2, 0, none⟩))] (by kernel_rfl) (by kernel_rfl) ?_
                refine WO_one rfl (One_load_own (d := 55) (t := 3) (x := (.tmp 54)) (.int .i64 x1.1) (by kernel_rfl) rfl (show evL _ _ = some (.pointer (some ⟨b2, 0, none⟩)) from (by kernel_rfl)) st.head (by kernel_rfl) ?_)
                refine WO_seg 8 [(63, .bool (!((x1.1 == 5) == (s1.2 == (IntKind.wrap .i64 ((List.length y2.1 : Int) - 1))))))] (by kernel_rfl) (by kernel_rfl) ?_
                obtain rfl := Option.some.inj hr
                have st := st.front1
                have st := st.front1
                exact WO_env _ (by kernel_rfl) (K _ _ ⟨m6, rfl, hm, st, r1⟩)
      · intro hc
        rw [if_neg (not_true hc)] at hr
        refine W_exit ?_
        refine X_then_exit ?_
        obtain rfl := Option.some.inj hr
        have ho := hBu2 _ rfl
        refine X_then_exit ?_
        exact X_env _ (by kernel_rfl) (K0_u2 _ _ ⟨(), m6, ho, rfl, hm, st, r1⟩)

def testgateref04_skip_L2 (N : Nat) (p0 : ByteArray) (s2 : Int) : Option ((Int) ⊕ ((Int))) :=
  (if (decide (s2 < (ByteArray.size p0 : Int))) = true then ((idxB p0 s2).bind fun x6 => some ((x6.toNat : Int) != 10)) else (some false) : Option (Bool)).bind fun o4 => if o4 = true then (some (.inl (IntKind.wrap .i64 (s2 + 1)))) else (some (.inr s2))

def testgateref04_skip_L1 (N : Nat) (p0 : ByteArray) (s1 : Int) : Option ((Int) ⊕ ((Int) ⊕ (Int))) :=
  if (decide (s1 < (ByteArray.size p0 : Int))) = true then (((idxB p0 s1).bind fun x1 => if ((x1.toNat : Int) == 32) = true then (some true) else ((idxB p0 s1).bind fun x2 => if ((x2.toNat : Int) == 9) = true then (some true) else ((idxB p0 s1).bind fun x3 => if ((x3.toNat : Int) == 10) = true then (some true) else ((idxB p0 s1).bind fun x4 => some ((x4.toNat : Int) == 13)))) : Option (Bool)).bind fun o2 => if o2 = true then (some (.inl (IntKind.wrap .i64 (s1 + 1)))) else ((idxB p0 s1).bind fun x5 => if ((x5.toNat : Int) == 35) = true then ((loopM (testgateref04_skip_L2 N p0) N s1).bind fun o3 => some (.inl o3)) else (some (.inr (.inr (s1)))))) else (some (.inr (.inl s1)))

def testgateref04_skip (N : Nat) (p0 : ByteArray) (p1 : Int) : Option (Int) :=
  (loopM (testgateref04_skip_L1 N p0) N p1).bind fun out1 => (match out1 with | .inl o1 => some o1 | .inr (z) => some z)

set_option maxHeartbeats 4000000 in
set_option maxRecDepth 100000 in
theorem testgateref04_skip_ok {N : Nat} {m : Mem} {own : List Piece} {w : World} {p0 : ByteArray} {p1 : Int} {r : Int} (st : St m (own) w) (hr : testgateref04_skip N p0 p1 = some r) : Calls Go.Proofs.Tryd.prog 82 #[.string p0, .int .i64 p1] w fun e w' => ∃ (m' : Mem), e = .returned (.int .i64 r) ∧ m.le m' ∧ St m' (own) w' := by
  unfold testgateref04_skip at hr
  have hm := m.le_refl
  refine W_calls Go.Proofs.Tryd.func82 rfl Go.Proofs.Tryd.ntmps82 [(0, .string p0), (1, .int .i64 p1)] (by kernel_rfl) rfl ?_
  refine W_seq ?_
  refine W_region ?_
  refine WO_seg 1 [] (by kernel_rfl) (by kernel_rfl) ?_
  refine WO_end rfl ?_
  refine X_then ?_
  refine W_seq ?_
  refine W_block ?_
  replace hr := bindS hr
  obtain ⟨out1, hr, hrKu1⟩ := hr
  refine W_cut (.exit 0) (fun L' w' => ∃ (o1 : Int) (m1 : Mem), (.inl o1) = out1 ∧ L' = [(1, .int .i64 o1)] ∧ m.le m1 ∧ St m1 (own) w') ?_ ?_
  · clear hr st
    rintro _ w1 ⟨o1, m1, rfl, rfl, hm, st⟩
    have hr := hrKu1
    clear hrKu1
    dsimp only at hr
    refine X_block_eq ?_
    refine X_then ?_
    refine W_seq ?_
    refine W_region ?_
    refine WO_seg 2 [(4, .int .i64 o1)] (by kernel_rfl) (by kernel_rfl) ?_
    refine WO_end rfl ?_
    refine X_then ?_
    refine W_ret ?_
    obtain rfl := Option.some.inj hr
    refine X_ret [.tmp 4] [.int .i64 o1] rfl (ResAll.cons (ResAt.tmp (by kernel_rfl)) ResAll.nil) ?_
    exact ⟨m1, rfl, hm, st⟩
  intro K0_u1
  refine W_env _ (by kernel_rfl) (W_loop (fun k1 L' w' => ∃ (s1 : Int) (m2 : Mem), loopM (testgateref04_skip_L1 N p0) k1 s1 = some out1 ∧ L' = [(0, .string p0), (1, .int .i64 s1)] ∧ m.le m2 ∧ St m2 (own) w') N ⟨p1, m, hr, rfl, hm, st⟩ ?_)
  clear st hr
  rintro k1 _ w2 ⟨s1, m2, hL, rfl, hm, st⟩
  rcases k1 with _ | k1
  · exact loopM_zero hL
  · obtain ⟨qu1, hr, hSu1, hBu1⟩ := loopM_succ hL
    clear hL
    unfold testgateref04_skip_L1 at hr
    refine W_seq ?_
    refine W_seq ?_
    refine W_region ?_
    refine WO_seg 4 [(8, .bool (decide (s1 < (ByteArray.size p0 : Int))))] (by kernel_rfl) (by kernel_rfl) ?_
    refine WO_end rfl ?_
    refine X_then ?_
    refine W_cond (decide (s1 < (ByteArray.size p0 : Int))) (by kernel_rfl) ?_ ?_
    · intro hc
      rw [if_pos hc] at hr
      refine W_skip ?_
      refine X_then ?_
      refine W_block ?_
      refine W_block ?_
      refine W_seq ?_
      refine W_region ?_
      replace hr := bindS hr
      obtain ⟨o2, hr, hrK⟩ := hr
      refine WO_cut (j := 23) (fun L' w' => ∃ (m3 : Mem), L' = [(0, .string p0), (1, .int .i64 s1), (10, .bool o2)] ∧ m.le m3 ∧ St m3 (own) w') ?_ ?_
      · clear hr st
        have hr := hrK
        clear hrK
        rintro _ w3 ⟨m3, rfl, hm, st⟩
        refine WO_end rfl ?_
        refine X_then ?_
        refine W_cond o2 (by kernel_rfl) ?_ ?_
        · intro hc
          rw [if_pos hc] at hr
          refine W_region ?_
          refine WO_seg 3 [(1, .int .i64 (IntKind.wrap .i64 (s1 + 1)))] (by kernel_rfl) (by kernel_rfl) ?_
          refine WO_end rfl ?_
          refine X_block ?_
          refine X_block ?_
          obtain rfl := Option.some.inj hr
          have hL := hSu1 _ rfl
          exact X_env _ (by kernel_rfl) (X_round k1 (Nat.lt_succ_self _) ⟨IntKind.wrap .i64 (s1 + 1), m3, hL, rfl, hm, st⟩)
        · intro hc
          rw [if_neg (not_true hc)] at hr
          refine W_seq ?_
          refine W_region ?_
          refine WO_seg 2 [(36, .string p0), (37, .int .i64 s1)] (by kernel_rfl) (by kernel_rfl) ?_
          replace hr := bindS hr
          obtain ⟨x5, hx5, hr⟩ := hr
          refine WO_one rfl (One_strIndex (d := 38) (t := 9) (x := (.tmp 36)) (y := (.tmp 37)) (by kernel_rfl) rfl (show evL _ _ = some (.string p0) from (by kernel_rfl)) (show evL _ _ = some (.int .i64 s1) from (by kernel_rfl)) (by kernel_rfl) hx5 ?_)
          refine WO_seg 2 [(35, .bool ((x5.toNat : Int) == 35))] (by kernel_rfl) (by kernel_rfl) ?_
          refine WO_end rfl ?_
          refine X_then ?_
          refine W_cond ((x5.toNat : Int) == 35) (by kernel_rfl) ?_ ?_
          · intro hc
            rw [if_pos hc] at hr
            refine W_block ?_
            replace hr := bindS hr
            obtain ⟨out2, hr, hrKu2⟩ := hr
            refine W_cut (.exit 3) (fun L' w' => ∃ (o3 : Int) (m4 : Mem), o3 = out2 ∧ L' = [(0, .string p0), (1, .int .i64 o3)] ∧ m.le m4 ∧ St m4 (own) w') ?_ ?_
            · clear hr st
              rintro _ w4 ⟨o3, m4, rfl, rfl, hm, st⟩
              have hr := hrKu2
              clear hrKu2
              refine X_block_eq ?_
              refine X_block ?_
              refine X_block ?_
              obtain rfl := Option.some.inj hr
              have hL := hSu1 _ rfl
              exact X_env _ (by kernel_rfl) (X_round k1 (Nat.lt_succ_self _) ⟨o3, m4, hL, rfl, hm, st⟩)
            intro K3_u2
            clear hrKu2
            refine W_env _ (by kernel_rfl) (W_loop (fun k2 L' w' => ∃ (s2 : Int) (m5 : Mem), loopM (testgateref04_skip_L2 N p0) k2 s2 = some out2 ∧ L' = [(0, .string p0), (1, .int .i64 s2)] ∧ m.le m5 ∧ St m5 (own) w') N ⟨s1, m3, hr, rfl, hm, st⟩ ?_)
            clear st hr
            rintro k2 _ w5 ⟨s2, m5, hL, rfl, hm, st⟩
            rcases k2 with _ | k2
            · exact loopM_zero hL
            · obtain ⟨qu2, hr, hSu2, hBu2⟩ := loopM_succ hL
              clear hL
              unfold testgateref04_skip_L2 at hr
              refine W_seq ?_
              refine W_seq ?_
              refine W_region ?_
              replace hr := bindS hr
              obtain ⟨o4, hr, hrK⟩ := hr
              refine WO_cut (j := 10) (fun L' w' => ∃ (m6 : Mem), L' = [(0, .string p0), (1, .int .i64 s2), (49, .bool o4)] ∧ m.le m6 ∧ St m6 (own) w') ?_ ?_
              · clear hr st
                have hr := hrK
                clear hrK
                rintro _ w6 ⟨m6, rfl, hm, st⟩
                refine WO_end rfl ?_
                refine X_then ?_
                refine W_cond o4 (by kernel_rfl) ?_ ?_
                · intro hc
                  rw [if_pos hc] at hr
                  refine W_skip ?_
                  refine X_then ?_
                  refine W_block ?_
                  refine W_region ?_
                  refine WO_seg 3 [(1, .int .i64 (IntKind.wrap .i64 (s2 + 1)))] (by kernel_rfl) (by kernel_rfl) ?_
                  refine WO_end rfl ?_
                  refine X_block ?_
                  obtain rfl := Option.some.inj hr
                  have hL := hSu2 _ rfl
                  exact X_env _ (by kernel_rfl) (X_round k2 (Nat.lt_succ_self _) ⟨IntKind.wrap .i64 (s2 + 1), m6, hL, rfl, hm, st⟩)
                · intro hc
                  rw [if_neg (not_true hc)] at hr
                  refine W_exit ?_
                  refine X_then_exit ?_
                  obtain rfl := Option.some.inj hr
                  have ho := hBu2 _ rfl
                  refine X_then_exit ?_
                  exact X_env _ (by kernel_rfl) (K3_u2 _ _ ⟨s2, m6, ho, rfl, hm, st⟩)
              · intro K
                clear hrK
                refine WO_seg 5 [(44, .bool (decide (s2 < (ByteArray.size p0 : Int))))] (by kernel_rfl) (by kernel_rfl) ?_
                rcases bcases (decide (s2 < (ByteArray.size p0 : Int))) with hc | hc
                · rw [if_pos hc] at hr
                  refine WO_fact (t := 44) (b := true) (decide (s2 < (ByteArray.size p0 : Int))) (by kernel_rfl) hc ?_
                  refine WO_seg 2 [(45, .string p0), (46, .int .i64 s2)] (by kernel_rfl) (by kernel_rfl) ?_
                  replace hr := bindS hr
                  obtain ⟨x6, hx6, hr⟩ := hr
                  refine WO_one rfl (One_strIndex (d := 47) (t := 9) (x := (.tmp 45)) (y := (.tmp 46)) (by kernel_rfl) rfl (show evL _ _ = some (.string p0) from (by kernel_rfl)) (show evL _ _ = some (.int .i64 s2) from (by kernel_rfl)) (by kernel_rfl) hx6 ?_)
                  refine WO_seg 2 [(49, .bool ((x6.toNat : Int) != 10))] (by kernel_rfl) (by kernel_rfl) ?_
                  obtain rfl := Option.some.inj hr
                  exact WO_env _ (by kernel_rfl) (K _ _ ⟨m5, rfl, hm, st⟩)
                · rw [if_neg (not_true hc)] at hr
                  refine WO_fact (t := 44) (b := false) (decide (s2 < (ByteArray.size p0 : Int))) (by kernel_rfl) hc ?_
                  refine WO_seg 5 [(49, .bool false)] (by kernel_rfl) (by kernel_rfl) ?_
                  obtain rfl := Option.some.inj hr
                  exact WO_env _ (by kernel_rfl) (K _ _ ⟨m5, rfl, hm, st⟩)
          · intro hc
            rw [if_neg (not_true hc)] at hr
            refine W_seq ?_
            refine W_region ?_
            refine WO_seg 2 [(4, .int .i64 s1)] (by kernel_rfl) (by kernel_rfl) ?_
            refine WO_end rfl ?_
            refine X_then ?_
            refine W_ret ?_
            refine X_block_ret ?_
            refine X_block_ret ?_
            obtain rfl := Option.some.inj hr
            have ho := hBu1 _ rfl
            subst ho
            have hr := hrKu1
            dsimp only at hr
            refine X_then_ret ?_
            refine X_block_ret ?_
            refine X_then_ret ?_
            obtain rfl := Option.some.inj hr
            refine X_ret [.tmp 4] [.int .i64 s1] rfl (ResAll.cons (ResAt.tmp (by kernel_rfl)) ResAll.nil) ?_
            exact ⟨m3, rfl, hm, st⟩
      · intro K
        clear hrK
        refine WO_seg 2 [(11, .string p0), (12, .int .i64 s1)] (by kernel_rfl) (by kernel_rfl) ?_
        replace hr := bindS hr
        obtain ⟨x1, hx1, hr⟩ := hr
        refine WO_one rfl (One_strIndex (d := 13) (t := 9) (x := (.tmp 11)) (y := (.tmp 12)) (by kernel_rfl) rfl (show evL _ _ = some (.string p0) from (by kernel_rfl)) (show evL _ _ = some (.int .i64 s1) from (by kernel_rfl)) (by kernel_rfl) hx1 ?_)
        refine WO_seg 2 [(15, .bool ((x1.toNat : Int) == 32))] (by kernel_rfl) (by kernel_rfl) ?_
        rcases bcases ((x1.toNat : Int) == 32) with hc | hc
        · rw [if_pos hc] at hr
          refine WO_fact (t := 15) (b := true) ((x1.toNat : Int) == 32) (by kernel_rfl) hc ?_
          refine WO_seg 18 [(10, .bool true)] (by kernel_rfl) (by kernel_rfl) ?_
          obtain rfl := Option.some.inj hr
          exact WO_env _ (by kernel_rfl) (K _ _ ⟨m2, rfl, hm, st⟩)
        · rw [if_neg (not_true hc)] at hr
          refine WO_fact (t := 15) (b := false) ((x1.toNat : Int) == 32) (by kernel_rfl) hc ?_
          refine WO_seg 2 [(16, .string p0), (17, .int .i64 s1)] (by kernel_rfl) (by kernel_rfl) ?_
          replace hr := bindS hr
          obtain ⟨x2, hx2, hr⟩ := hr
          refine WO_one rfl (One_strIndex (d := 18) (t := 9) (x := (.tmp 16)) (y := (.tmp 17)) (by kernel_rfl) rfl (show evL _ _ = some (.string p0) from (by kernel_rfl)) (show evL _ _ = some (.int .i64 s1) from (by kernel_rfl)) (by kernel_rfl) hx2 ?_)
          refine WO_seg 3 [(21, .bool ((x2.toNat : Int) == 9))] (by kernel_rfl) (by kernel_rfl) ?_
          rcases bcases ((x2.toNat : Int) == 9) with hc | hc
          · rw [if_pos hc] at hr
            refine WO_fact (t := 21) (b := true) ((x2.toNat : Int) == 9) (by kernel_rfl) hc ?_
            refine WO_seg 12 [(10, .bool true)] (by kernel_rfl) (by kernel_rfl) ?_
            obtain rfl := Option.some.inj hr
            exact WO_env _ (by kernel_rfl) (K _ _ ⟨m2, rfl, hm, st⟩)
          · rw [if_neg (not_true hc)] at hr
            refine WO_fact (t := 21) (b := false) ((x2.toNat : Int) == 9) (by kernel_rfl) hc ?_
            refine WO_seg 2 [(22, .string p0), (23, .int .i64 s1)] (by kernel_rfl) (by kernel_rfl) ?_
            replace hr := bindS hr
            obtain ⟨x3, hx3, hr⟩ := hr
            refine WO_one rfl (One_strIndex (d := 24) (t := 9) (x := (.tmp 22)) (y := (.tmp 23)) (by kernel_rfl) rfl (show evL _ _ = some (.string p0) from (by kernel_rfl)) (show evL _ _ = some (.int .i64 s1) from (by kernel_rfl)) (by kernel_rfl) hx3 ?_)
            refine WO_seg 3 [(27, .bool ((x3.toNat : Int) == 10))] (by kernel_rfl) (by kernel_rfl) ?_
            rcases bcases ((x3.toNat : Int) == 10) with hc | hc
            · rw [if_pos hc] at hr
              refine WO_fact (t := 27) (b := true) ((x3.toNat : Int) == 10) (by kernel_rfl) hc ?_
              refine WO_seg 6 [(10, .bool true)] (by kernel_rfl) (by kernel_rfl) ?_
              obtain rfl := Option.some.inj hr
              exact WO_env _ (by kernel_rfl) (K _ _ ⟨m2, rfl, hm, st⟩)
            · rw [if_neg (not_true hc)] at hr
              refine WO_fact (t := 27) (b := false) ((x3.toNat : Int) == 10) (by kernel_rfl) hc ?_
              refine WO_seg 2 [(28, .string p0), (29, .int .i64 s1)] (by kernel_rfl) (by kernel_rfl) ?_
              replace hr := bindS hr
              obtain ⟨x4, hx4, hr⟩ := hr
              refine WO_one rfl (One_strIndex (d := 30) (t := 9) (x := (.tmp 28)) (y := (.tmp 29)) (by kernel_rfl) rfl (show evL _ _ = some (.string p0) from (by kernel_rfl)) (show evL _ _ = some (.int .i64 s1) from (by kernel_rfl)) (by kernel_rfl) hx4 ?_)
              refine WO_seg 3 [(10, .bool ((x4.toNat : Int) == 13))] (by kernel_rfl) (by kernel_rfl) ?_
              obtain rfl := Option.some.inj hr
              exact WO_env _ (by kernel_rfl) (K _ _ ⟨m2, rfl, hm, st⟩)
    · intro hc
      rw [if_neg (not_true hc)] at hr
      refine W_exit ?_
      refine X_then_exit ?_
      obtain rfl := Option.some.inj hr
      have ho := hBu1 _ rfl
      refine X_then_exit ?_
      exact X_env _ (by kernel_rfl) (K0_u1 _ _ ⟨s1, m2, ho, rfl, hm, st⟩)

def testgateref04_letter (N : Nat) (p0 : Int) : Option (Bool) :=
  (if (decide (p0 ≥ 97)) = true then (some (decide (p0 ≤ 122))) else (some false) : Option (Bool)).bind fun o1 => some o1

set_option maxHeartbeats 4000000 in
set_option maxRecDepth 100000 in
theorem testgateref04_letter_ok {N : Nat} {m : Mem} {own : List Piece} {w : World} {p0 : Int} {r : Bool} (st : St m (own) w) (hr : testgateref04_letter N p0 = some r) : Calls Go.Proofs.Tryd.prog 51 #[.int .u8 p0] w fun e w' => ∃ (m' : Mem), e = .returned (.bool r) ∧ m.le m' ∧ St m' (own) w' := by
  unfold testgateref04_letter at hr
  have hm := m.le_refl
  refine W_calls Go.Proofs.Tryd.func51 rfl Go.Proofs.Tryd.ntmps51 [(0, .int .u8 p0)] (by kernel_rfl) rfl ?_
  refine W_seq ?_
  refine W_region ?_
  refine WO_seg 1 [] (by kernel_rfl) (by kernel_rfl) ?_
  refine WO_end rfl ?_
  refine X_then ?_
  refine W_seq ?_
  refine W_region ?_
  replace hr := bindS hr
  obtain ⟨o1, hr, hrK⟩ := hr
  refine WO_cut (j := 7) (fun L' w' => ∃ (m1 : Mem), L' = [(2, .bool o1)] ∧ m.le m1 ∧ St m1 (own) w') ?_ ?_
  · clear hr st
    have hr := hrK
    clear hrK
    rintro _ w1 ⟨m1, rfl, hm, st⟩
    refine WO_end rfl ?_
    refine X_then ?_
    refine W_ret ?_
    obtain rfl := Option.some.inj hr
    refine X_ret [.tmp 2] [.bool o1] rfl (ResAll.cons (ResAt.tmp (by kernel_rfl)) ResAll.nil) ?_
    exact ⟨m1, rfl, hm, st⟩
  · intro K
    clear hrK
    refine WO_seg 3 [(5, .bool (decide (p0 ≥ 97)))] (by kernel_rfl) (by kernel_rfl) ?_
    rcases bcases (decide (p0 ≥ 97)) with hc | hc
    · rw [if_pos hc] at hr
      refine WO_fact (t := 5) (b := true) (decide (p0 ≥ 97)) (by kernel_rfl) hc ?_
      refine WO_seg 4 [(2, .bool (decide (p0 ≤ 122)))] (by kernel_rfl) (by kernel_rfl) ?_
      obtain rfl := Option.some.inj hr
      exact WO_env _ (by kernel_rfl) (K _ _ ⟨m, rfl, hm, st⟩)
    · rw [if_neg (not_true hc)] at hr
      refine WO_fact (t := 5) (b := false) (decide (p0 ≥ 97)) (by kernel_rfl) hc ?_
      refine WO_seg 4 [(2, .bool false)] (by kernel_rfl) (by kernel_rfl) ?_
      obtain rfl := Option.some.inj hr
      exact WO_env _ (by kernel_rfl) (K _ _ ⟨m, rfl, hm, st⟩)

def testgateref04_inner (N : Nat) (p0 : Int) : Option (Bool) :=
  ((testgateref04_letter N p0).bind fun y1 => if y1 = true then (some true) else (if (decide (p0 ≥ 48)) = true then (if (decide (p0 ≤ 57)) = true then (some true) else (some (p0 == 95))) else (some (p0 == 95))) : Option (Bool)).bind fun o1 => some o1

set_option maxHeartbeats 4000000 in
set_option maxRecDepth 100000 in
theorem testgateref04_inner_ok {N : Nat} {m : Mem} {own : List Piece} {w : World} {p0 : Int} {r : Bool} (st : St m (own) w) (hr : testgateref04_inner N p0 = some r) : Calls Go.Proofs.Tryd.prog 52 #[.int .u8 p0] w fun e w' => ∃ (m' : Mem), e = .returned (.bool r) ∧ m.le m' ∧ St m' (own) w' := by
  unfold testgateref04_inner at hr
  have hm := m.le_refl
  refine W_calls Go.Proofs.Tryd.func52 rfl Go.Proofs.Tryd.ntmps52 [(0, .int .u8 p0)] (by kernel_rfl) rfl ?_
  refine W_seq ?_
  refine W_region ?_
  refine WO_seg 1 [] (by kernel_rfl) (by kernel_rfl) ?_
  refine WO_end rfl ?_
  refine X_then ?_
  refine W_seq ?_
  refine W_region ?_
  replace hr := bindS hr
  obtain ⟨o1, hr, hrK⟩ := hr
  refine WO_cut (j := 15) (fun L' w' => ∃ (m1 : Mem), L' = [(2, .bool o1)] ∧ m.le m1 ∧ St m1 (own) w') ?_ ?_
  · clear hr st
    have hr := hrK
    clear hrK
    rintro _ w1 ⟨m1, rfl, hm, st⟩
    refine WO_end rfl ?_
    refine X_then ?_
    refine W_ret ?_
    obtain rfl := Option.some.inj hr
    refine X_ret [.tmp 2] [.bool o1] rfl (ResAll.cons (ResAt.tmp (by kernel_rfl)) ResAll.nil) ?_
    exact ⟨m1, rfl, hm, st⟩
  · intro K
    clear hrK
    refine WO_seg 1 [(3, .int .u8 p0)] (by kernel_rfl) (by kernel_rfl) ?_
    replace hr := bindS hr
    obtain ⟨y1, hx1, hr⟩ := hr
    refine WO_one rfl (One_fn 4 51 #[.int .u8 p0] (by kernel_rfl) rfl ?_)
    refine (testgateref04_letter_ok st hx1).mono ?_
    clear st
    rintro _ w2 ⟨m2, rfl, hle1, st⟩
    refine ⟨_, rfl, ?_⟩
    have hm := Mem.le_trans hm hle1
    refine WO_seg 1 [(5, .bool y1)] (by kernel_rfl) (by kernel_rfl) ?_
    rcases bcases y1 with hc | hc
    · rw [if_pos hc] at hr
      refine WO_fact (t := 5) (b := true) y1 (by kernel_rfl) hc ?_
      refine WO_seg 12 [(2, .bool true)] (by kernel_rfl) (by kernel_rfl) ?_
      obtain rfl := Option.some.inj hr
      exact WO_env _ (by kernel_rfl) (K _ _ ⟨m2, rfl, hm, st⟩)
    · rw [if_neg (not_true hc)] at hr
      refine WO_fact (t := 5) (b := false) y1 (by kernel_rfl) hc ?_
      refine WO_seg 3 [(8, .bool (decide (p0 ≥ 48)))] (by kernel_rfl) (by kernel_rfl) ?_
      rcases bcases (decide (p0 ≥ 48)) with hc | hc
      · rw [if_pos hc] at hr
        refine WO_fact (t := 8) (b := true) (decide (p0 ≥ 48)) (by kernel_rfl) hc ?_
        refine WO_seg 5 [(13, .bool (decide (p0 ≤ 57)))] (by kernel_rfl) (by kernel_rfl) ?_
        rcases bcases (decide (p0 ≤ 57)) with hc | hc
        · rw [if_pos hc] at hr
          refine WO_fact (t := 13) (b := true) (decide (p0 ≤ 57)) (by kernel_rfl) hc ?_
          refine WO_seg 4 [(2, .bool true)] (by kernel_rfl) (by kernel_rfl) ?_
          obtain rfl := Option.some.inj hr
          exact WO_env _ (by kernel_rfl) (K _ _ ⟨m2, rfl, hm, st⟩)
        · rw [if_neg (not_true hc)] at hr
          refine WO_fact (t := 13) (b := false) (decide (p0 ≤ 57)) (by kernel_rfl) hc ?_
          refine WO_seg 4 [(2, .bool (p0 == 95))] (by kernel_rfl) (by kernel_rfl) ?_
          obtain rfl := Option.some.inj hr
          exact WO_env _ (by kernel_rfl) (K _ _ ⟨m2, rfl, hm, st⟩)
      · rw [if_neg (not_true hc)] at hr
        refine WO_fact (t := 8) (b := false) (decide (p0 ≥ 48)) (by kernel_rfl) hc ?_
        refine WO_seg 9 [(2, .bool (p0 == 95))] (by kernel_rfl) (by kernel_rfl) ?_
        obtain rfl := Option.some.inj hr
        exact WO_env _ (by kernel_rfl) (K _ _ ⟨m2, rfl, hm, st⟩)

def testgateref04_token_L1 (N : Nat) (p0 : ByteArray) (s1 : Int) : Option ((Int) ⊕ ((Int))) :=
  (if (decide (s1 < (ByteArray.size p0 : Int))) = true then ((idxB p0 s1).bind fun x2 => (testgateref04_inner N (x2.toNat : Int)).bind fun y2 => some y2) else (some false) : Option (Bool)).bind fun o2 => if o2 = true then (some (.inl (IntKind.wrap .i64 (s1 + 1)))) else (some (.inr s1))

def testgateref04_token_L2 (N : Nat) (p0 : ByteArray) (s3 : Int × Int) : Option ((Int × Int) ⊕ ((Int × Int))) :=
  (if (decide (s3.1 < (ByteArray.size p0 : Int))) = true then ((idxB p0 s3.1).bind fun x3 => if (decide ((x3.toNat : Int) ≥ 48)) = true then ((idxB p0 s3.1).bind fun x4 => some (decide ((x4.toNat : Int) ≤ 57))) else (some false)) else (some false) : Option (Bool)).bind fun o5 => if o5 = true then ((if (decide (s3.2 ≤ 9007199254740992)) = true then ((idxB p0 s3.1).bind fun x5 => some (IntKind.wrap .i64 ((IntKind.wrap .i64 (s3.2 * 10)) + (IntKind.wrap .i64 (IntKind.wrap .u8 ((x5.toNat : Int) - 48)))))) else (some s3.2) : Option (Int)).bind fun o6 => some (.inl (IntKind.wrap .i64 (s3.1 + 1), o6))) else (some (.inr (s3.1, s3.2)))

def testgateref04_token_L3 (N : Nat) (p0 : ByteArray) (s4 : Int) : Option ((Int) ⊕ ((Int))) :=
  (if (decide (s4 < (ByteArray.size p0 : Int))) = true then ((idxB p0 s4).bind fun x6 => if (decide ((x6.toNat : Int) ≥ 32)) = true then ((idxB p0 s4).bind fun x7 => if (decide ((x7.toNat : Int) ≤ 126)) = true then ((idxB p0 s4).bind fun x8 => some ((x8.toNat : Int) != 34)) else (some false)) else (some false)) else (some false) : Option (Bool)).bind fun o8 => if o8 = true then (some (.inl (IntKind.wrap .i64 (s4 + 1)))) else (some (.inr s4))

def testgateref04_token_L4 (N : Nat) (p0 : ByteArray) (p1 : Int) (s6 : Int) : Option ((Int) ⊕ ((Unit) ⊕ ((Int × ByteArray × Int × Int) × Int × Int))) :=
  if (decide (s6 < (List.length ([(59 : UInt8), (44 : UInt8), (40 : UInt8), (41 : UInt8), (43 : UInt8), (45 : UInt8), (42 : UInt8), (47 : UInt8), (37 : UInt8), (60 : UInt8), (61 : UInt8)]) : Int))) = true then ((idx ([(59 : UInt8), (44 : UInt8), (40 : UInt8), (41 : UInt8), (43 : UInt8), (45 : UInt8), (42 : UInt8), (47 : UInt8), (37 : UInt8), (60 : UInt8), (61 : UInt8)]) s6).bind fun x12 => (idxB p0 p1).bind fun x13 => if ((x13.toNat : Int) == (x12.toNat : Int)) = true then ((subB p0 p1 (IntKind.wrap .i64 (p1 + 1))).bind fun s7 => some (.inr (.inr (((4, s7, 0, p1), IntKind.wrap .i64 (p1 + 1), 0))))) else (some (.inl (IntKind.wrap .i64 (s6 + 1))))) else (some (.inr (.inl ())))

def testgateref04_token (N : Nat) (p0 : ByteArray) (p1 : Int) : Option ((Int × ByteArray × Int × Int) × Int × Int) :=
  (idxB p0 p1).bind fun x1 => (testgateref04_letter N (x1.toNat : Int)).bind fun y1 => if y1 = true then ((loopM (testgateref04_token_L1 N p0) N p1).bind fun o1 => if (decide ((IntKind.wrap .i64 (o1 - p1)) > 24)) = true then (some ((0, (⟨#[]⟩ : ByteArray), 0, 0), 0, 2)) else ((subB p0 p1 o1).bind fun s2 => some ((1, s2, 0, p1), o1, 0))) else ((if (decide ((x1.toNat : Int) ≥ 48)) = true then (some (decide ((x1.toNat : Int) ≤ 57))) else (some false) : Option (Bool)).bind fun o3 => if o3 = true then ((loopM (testgateref04_token_L2 N p0) N (p1, 0)).bind fun o4 => if (decide (o4.2 > 9007199254740992)) = true then (some ((0, (⟨#[]⟩ : ByteArray), 0, 0), 0, 3)) else (some ((2, (⟨#[]⟩ : ByteArray), o4.2, p1), o4.1, 0))) else (if ((x1.toNat : Int) == 34) = true then ((loopM (testgateref04_token_L3 N p0) N (IntKind.wrap .i64 (p1 + 1))).bind fun o7 => (if (o7 == (ByteArray.size p0 : Int)) = true then (some true) else ((idxB p0 o7).bind fun x9 => some ((x9.toNat : Int) != 34)) : Option (Bool)).bind fun o9 => if o9 = true then (some ((0, (⟨#[]⟩ : ByteArray), 0, 0), 0, 9)) else ((subB p0 (IntKind.wrap .i64 (p1 + 1)) o7).bind fun s5 => some ((3, s5, 0, p1), IntKind.wrap .i64 (o7 + 1), 0))) else (((idxB p0 p1).bind fun x10 => if ((x10.toNat : Int) == 61) = true then (if (decide ((IntKind.wrap .i64 (p1 + 1)) < (ByteArray.size p0 : Int))) = true then ((idxB p0 (IntKind.wrap .i64 (p1 + 1))).bind fun x11 => some ((x11.toNat : Int) == 61)) else (some false)) else (some false) : Option (Bool)).bind fun o10 => if o10 = true then (some ((4, (⟨#[61, 61]⟩ : ByteArray), 0, p1), IntKind.wrap .i64 (p1 + 2), 0)) else ((loopM (testgateref04_token_L4 N p0 p1) N 0).bind fun out4 => (match out4 with | .inl o11 => some ((0, (⟨#[]⟩ : ByteArray), 0, 0), 0, 9) | .inr (z) => some z)))))

set_option maxHeartbeats 4000000 in
set_option maxRecDepth 100000 in
theorem testgateref04_token_ok {N : Nat} {m : Mem} {own : List Piece} {w : World} {p0 : ByteArray} {p1 : Int} {r : (Int × ByteArray × Int × Int) × Int × Int} (st : St m (own) w) (hr : testgateref04_token N p0 p1 = some r) : Calls Go.Proofs.Tryd.prog 83 #[.string p0, .int .i64 p1] w fun e w' => ∃ (m' : Mem), e = .returned (.tuple #[.agg #[.int .i64 r.1.1, .string r.1.2.1, .int .i64 r.1.2.2.1, .int .i64 r.1.2.2.2], .int .i64 r.2.1, .int .i64 r.2.2]) ∧ m.le m' ∧ St m' (own) w' := by
  unfold testgateref04_token at hr
  have hm := m.le_refl
  refine W_calls Go.Proofs.Tryd.func83 rfl Go.Proofs.Tryd.ntmps83 [(0, .string p0), (1, .int .i64 p1)] (by kernel_rfl) rfl ?_
  refine W_seq ?_
  refine W_region ?_
  refine WO_one rfl (One_alloc (d := 4) (e := 42) (.agg #[.int .i64 0, .string (⟨#[]⟩ : ByteArray), .int .i64 0, .int .i64 0]) (by kernel_rfl) rfl (by kernel_rfl) st ?_)
  clear st
  intro b1 w1 st
  refine WO_seg 2 [] (by kernel_rfl) (by kernel_rfl) ?_
  refine WO_end rfl ?_
  refine X_then ?_
  refine W_seq ?_
  refine W_region ?_
  refine WO_seg 2 [(5, .int .i64 p1)] (by kernel_rfl) (by kernel_rfl) ?_
  refine WO_end rfl ?_
  refine X_then ?_
  refine W_seq ?_
  refine W_seq ?_
  refine W_region ?_
  refine WO_seg 2 [(12, .string p0), (13, .int .i64 p1)] (by kernel_rfl) (by kernel_rfl) ?_
  replace hr := bindS hr
  obtain ⟨x1, hx1, hr⟩ := hr
  refine WO_one rfl (One_strIndex (d := 14) (t := 9) (x := (.tmp 12)) (y := (.tmp 13)) (by kernel_rfl) rfl (show evL _ _ = some (.string p0) from (by kernel_rfl)) (show evL _ _ = some (.int .i64 p1) from (by kernel_rfl)) (by kernel_rfl) hx1 ?_)
  refine WO_seg 1 [(7, .int .u8 (x1.toNat : Int))] (by kernel_rfl) (by kernel_rfl) ?_
  refine WO_end rfl ?_
  refine X_then ?_
  refine W_block ?_
  refine W_seq ?_
  refine W_region ?_
  refine WO_seg 1 [(16, .int .u8 (x1.toNat : Int))] (by kernel_rfl) (by kernel_rfl) ?_
  replace hr := bindS hr
  obtain ⟨y1, hx2, hr⟩ := hr
  refine WO_one rfl (One_fn 17 51 #[.int .u8 (x1.toNat : Int)] (by kernel_rfl) rfl ?_)
  refine (testgateref04_letter_ok st hx2).mono ?_
  clear st
  rintro _ w2 ⟨m1, rfl, hle1, st⟩
  refine ⟨_, rfl, ?_⟩
  have hm := Mem.le_trans hm hle1
  refine WO_seg 1 [(15, .bool y1)] (by kernel_rfl) (by kernel_rfl) ?_
  refine WO_end rfl ?_
  refine X_then ?_
  refine W_cond y1 (by kernel_rfl) ?_ ?_
  · intro hc
    rw [if_pos hc] at hr
    refine W_seq ?_
    refine W_block ?_
    replace hr := bindS hr
    obtain ⟨out1, hr, hrKu1⟩ := hr
    refine W_cut (.exit 1) (fun L' w' => ∃ (o1 : Int) (m2 : Mem), o1 = out1 ∧ L' = [(0, .string p0), (1, .int .i64 p1), (4, .pointer (some ⟨b1, 0, none⟩)), (5, .int .i64 o1)] ∧ m.le m2 ∧ St m2 (.blk b1 (.cells #[.int .i64 0, .string (⟨#[]⟩ : ByteArray), .int .i64 0, .int .i64 0] 42 (0, 0)) :: own) w') ?_ ?_
    · clear hr st
      rintro _ w3 ⟨o1, m2, rfl, rfl, hm, st⟩
      have hr := hrKu1
      clear hrKu1
      refine X_block_eq ?_
      refine X_then ?_
      refine W_seq ?_
      refine W_seq ?_
      refine W_region ?_
      refine WO_seg 4 [(33, .bool (decide ((IntKind.wrap .i64 (o1 - p1)) > 24)))] (by kernel_rfl) (by kernel_rfl) ?_
      refine WO_end rfl ?_
      refine X_then ?_
      refine W_cond (decide ((IntKind.wrap .i64 (o1 - p1)) > 24)) (by kernel_rfl) ?_ ?_
      · intro hc
        rw [if_pos hc] at hr
        refine W_seq ?_
        refine W_region ?_
        refine WO_one rfl (One_load_own (d := 34) (t := 42) (x := (.tmp 4)) (.agg #[.int .i64 0, .string (⟨#[]⟩ : ByteArray), .int .i64 0, .int .i64 0]) (by kernel_rfl) rfl (show evL _ _ = some (.pointer (some ⟨b1, 0, none⟩)) from (by kernel_rfl)) st.head (by kernel_rfl) ?_)
        refine WO_one rfl (One_store (t := 42) (x := (.tmp 4)) (y := (.tmp 34)) (v := .agg #[.int .i64 0, .string (⟨#[]⟩ : ByteArray), .int .i64 0, .int .i64 0]) (c' := #[.int .i64 0, .string (⟨#[]⟩ : ByteArray), .int .i64 0, .int .i64 0]) (by kernel_rfl) (show evL _ _ = some (.pointer (some ⟨b1, 0, none⟩)) from (by kernel_rfl)) (show evL _ _ = some (.agg #[.int .i64 0, .string (⟨#[]⟩ : ByteArray), .int .i64 0, .int .i64 0]) from (by kernel_rfl)) st (by kernel_rfl) (by kernel_rfl) ?_)
        clear st
        intro w7 st
        refine WO_seg 2 [(5, .int .i64 0), (6, .int .i64 2)] (by kernel_rfl) (by kernel_rfl) ?_
        refine WO_end rfl ?_
        refine X_then ?_
        refine W_ret ?_
        refine X_then_ret ?_
        refine X_block_ret ?_
        refine X_then_ret ?_
        obtain rfl := Option.some.inj hr
        refine X_ret [.cell 4 42, .tmp 5, .tmp 6] [.agg #[.int .i64 0, .string (⟨#[]⟩ : ByteArray), .int .i64 0, .int .i64 0], .int .i64 0, .int .i64 2] rfl (ResAll.cons (ResAt.blk (v := .agg #[.int .i64 0, .string (⟨#[]⟩ : ByteArray), .int .i64 0, .int .i64 0]) (o := 0) (by kernel_rfl) st.head (by kernel_rfl)) (ResAll.cons (ResAt.tmp (by kernel_rfl)) (ResAll.cons (ResAt.tmp (by kernel_rfl)) ResAll.nil))) ?_
        have st := st.tail
        exact ⟨m2, rfl, hm, st⟩
      · intro hc
        rw [if_neg (not_true hc)] at hr
        refine W_skip ?_
        refine X_then ?_
        refine W_seq ?_
        refine W_region ?_
        refine WO_seg 3 [(35, .string p0), (36, .int .i64 p1), (37, .int .i64 o1)] (by kernel_rfl) (by kernel_rfl) ?_
        replace hr := bindS hr
        obtain ⟨s2, hx5, hr⟩ := hr
        refine WO_one rfl (One_strSlice (d := 38) (t := 9) (x := (.tmp 35)) (lo := (some (.tmp 36))) (hi := (some (.tmp 37))) (by kernel_rfl) rfl (show evL _ _ = some (.string p0) from (by kernel_rfl)) (by kernel_rfl) (.inr ⟨_, _, rfl, (show evL _ _ = some (.int .i64 p1) from (by kernel_rfl))⟩) (.inr ⟨_, _, rfl, (show evL _ _ = some (.int .i64 o1) from (by kernel_rfl))⟩) hx5 ?_)
        refine WO_seg 3 [(40, .agg #[.int .i64 1, .string s2, .int .i64 0, .int .i64 p1]), (41, .int .i64 o1)] (by kernel_rfl) (by kernel_rfl) ?_
        refine WO_one rfl (One_store (t := 42) (x := (.tmp 4)) (y := (.tmp 40)) (v := .agg #[.int .i64 1, .string s2, .int .i64 0, .int .i64 p1]) (c' := #[.int .i64 1, .string s2, .int .i64 0, .int .i64 p1]) (by kernel_rfl) (show evL _ _ = some (.pointer (some ⟨b1, 0, none⟩)) from (by kernel_rfl)) (show evL _ _ = some (.agg #[.int .i64 1, .string s2, .int .i64 0, .int .i64 p1]) from (by kernel_rfl)) st (by kernel_rfl) (by kernel_rfl) ?_)
        clear st
        intro w8 st
        refine WO_seg 2 [(5, .int .i64 o1), (6, .int .i64 0)] (by kernel_rfl) (by kernel_rfl) ?_
        refine WO_end rfl ?_
        refine X_then ?_
        refine W_ret ?_
        refine X_block_ret ?_
        refine X_then_ret ?_
        obtain rfl := Option.some.inj hr
        refine X_ret [.cell 4 42, .tmp 5, .tmp 6] [.agg #[.int .i64 1, .string s2, .int .i64 0, .int .i64 p1], .int .i64 o1, .int .i64 0] rfl (ResAll.cons (ResAt.blk (v := .agg #[.int .i64 1, .string s2, .int .i64 0, .int .i64 p1]) (o := 0) (by kernel_rfl) st.head (by kernel_rfl)) (ResAll.cons (ResAt.tmp (by kernel_rfl)) (ResAll.cons (ResAt.tmp (by kernel_rfl)) ResAll.nil))) ?_
        have st := st.tail
        exact ⟨m2, rfl, hm, st⟩
    intro K1_u1
    clear hrKu1
    refine W_env _ (by kernel_rfl) (W_loop (fun k1 L' w' => ∃ (s1 : Int) (m3 : Mem), loopM (testgateref04_token_L1 N p0) k1 s1 = some out1 ∧ L' = [(0, .string p0), (1, .int .i64 p1), (4, .pointer (some ⟨b1, 0, none⟩)), (5, .int .i64 s1)] ∧ m.le m3 ∧ St m3 (.blk b1 (.cells #[.int .i64 0, .string (⟨#[]⟩ : ByteArray), .int .i64 0, .int .i64 0] 42 (0, 0)) :: own) w') N ⟨p1, m1, hr, rfl, hm, st⟩ ?_)
    clear st hr
    rintro k1 _ w4 ⟨s1, m3, hL, rfl, hm, st⟩
    rcases k1 with _ | k1
    · exact loopM_zero hL
    · obtain ⟨qu1, hr, hSu1, hBu1⟩ := loopM_succ hL
      clear hL
      unfold testgateref04_token_L1 at hr
      refine W_seq ?_
      refine W_seq ?_
      refine W_region ?_
      replace hr := bindS hr
      obtain ⟨o2, hr, hrK⟩ := hr
      refine WO_cut (j := 10) (fun L' w' => ∃ (m4 : Mem), L' = [(0, .string p0), (1, .int .i64 p1), (4, .pointer (some ⟨b1, 0, none⟩)), (5, .int .i64 s1), (27, .bool o2)] ∧ m.le m4 ∧ St m4 (.blk b1 (.cells #[.int .i64 0, .string (⟨#[]⟩ : ByteArray), .int .i64 0, .int .i64 0] 42 (0, 0)) :: own) w') ?_ ?_
      · clear hr st
        have hr := hrK
        clear hrK
        rintro _ w5 ⟨m4, rfl, hm, st⟩
        refine WO_end rfl ?_
        refine X_then ?_
        refine W_cond o2 (by kernel_rfl) ?_ ?_
        · intro hc
          rw [if_pos hc] at hr
          refine W_skip ?_
          refine X_then ?_
          refine W_block ?_
          refine W_region ?_
          refine WO_seg 3 [(5, .int .i64 (IntKind.wrap .i64 (s1 + 1)))] (by kernel_rfl) (by kernel_rfl) ?_
          refine WO_end rfl ?_
          refine X_block ?_
          obtain rfl := Option.some.inj hr
          have hL := hSu1 _ rfl
          exact X_env _ (by kernel_rfl) (X_round k1 (Nat.lt_succ_self _) ⟨IntKind.wrap .i64 (s1 + 1), m4, hL, rfl, hm, st⟩)
        · intro hc
          rw [if_neg (not_true hc)] at hr
          refine W_exit ?_
          refine X_then_exit ?_
          obtain rfl := Option.some.inj hr
          have ho := hBu1 _ rfl
          refine X_then_exit ?_
          exact X_env _ (by kernel_rfl) (K1_u1 _ _ ⟨s1, m4, ho, rfl, hm, st⟩)
      · intro K
        clear hrK
        refine WO_seg 5 [(22, .bool (decide (s1 < (ByteArray.size p0 : Int))))] (by kernel_rfl) (by kernel_rfl) ?_
        rcases bcases (decide (s1 < (ByteArray.size p0 : Int))) with hc | hc
        · rw [if_pos hc] at hr
          refine WO_fact (t := 22) (b := true) (decide (s1 < (ByteArray.size p0 : Int))) (by kernel_rfl) hc ?_
          refine WO_seg 2 [(23, .string p0), (24, .int .i64 s1)] (by kernel_rfl) (by kernel_rfl) ?_
          replace hr := bindS hr
          obtain ⟨x2, hx3, hr⟩ := hr
          refine WO_one rfl (One_strIndex (d := 25) (t := 9) (x := (.tmp 23)) (y := (.tmp 24)) (by kernel_rfl) rfl (show evL _ _ = some (.string p0) from (by kernel_rfl)) (show evL _ _ = some (.int .i64 s1) from (by kernel_rfl)) (by kernel_rfl) hx3 ?_)
          replace hr := bindS hr
          obtain ⟨y2, hx4, hr⟩ := hr
          refine WO_one rfl (One_fn 26 52 #[.int .u8 (x2.toNat : Int)] (by kernel_rfl) rfl ?_)
          refine (testgateref04_inner_ok st hx4).mono ?_
          clear st
          rintro _ w6 ⟨m5, rfl, hle2, st⟩
          refine ⟨_, rfl, ?_⟩
          have hm := Mem.le_trans hm hle2
          refine WO_seg 1 [(27, .bool y2)] (by kernel_rfl) (by kernel_rfl) ?_
          obtain rfl := Option.some.inj hr
          exact WO_env _ (by kernel_rfl) (K _ _ ⟨m5, rfl, hm, st⟩)
        · rw [if_neg (not_true hc)] at hr
          refine WO_fact (t := 22) (b := false) (decide (s1 < (ByteArray.size p0 : Int))) (by kernel_rfl) hc ?_
          refine WO_seg 5 [(27, .bool false)] (by kernel_rfl) (by kernel_rfl) ?_
          obtain rfl := Option.some.inj hr
          exact WO_env _ (by kernel_rfl) (K _ _ ⟨m3, rfl, hm, st⟩)
  · intro hc
    rw [if_neg (not_true hc)] at hr
    refine W_seq ?_
    refine W_region ?_
    replace hr := bindS hr
    obtain ⟨o3, hr, hrK⟩ := hr
    refine WO_cut (j := 7) (fun L' w' => ∃ (m6 : Mem), L' = [(0, .string p0), (1, .int .i64 p1), (4, .pointer (some ⟨b1, 0, none⟩)), (5, .int .i64 p1), (7, .int .u8 (x1.toNat : Int)), (42, .bool o3)] ∧ m.le m6 ∧ St m6 (.blk b1 (.cells #[.int .i64 0, .string (⟨#[]⟩ : ByteArray), .int .i64 0, .int .i64 0] 42 (0, 0)) :: own) w') ?_ ?_
    · clear hr st
      have hr := hrK
      clear hrK
      rintro _ w9 ⟨m6, rfl, hm, st⟩
      refine WO_end rfl ?_
      refine X_then ?_
      refine W_cond o3 (by kernel_rfl) ?_ ?_
      · intro hc
        rw [if_pos hc] at hr
        refine W_seq ?_
        refine W_region ?_
        refine WO_seg 1 [(8, .int .i64 0)] (by kernel_rfl) (by kernel_rfl) ?_
        refine WO_end rfl ?_
        refine X_then ?_
        refine W_seq ?_
        refine W_block ?_
        replace hr := bindS hr
        obtain ⟨out2, hr, hrKu3⟩ := hr
        refine W_cut (.exit 3) (fun L' w' => ∃ (o4 : Int × Int) (m7 : Mem), o4 = out2 ∧ L' = [(1, .int .i64 p1), (4, .pointer (some ⟨b1, 0, none⟩)), (5, .int .i64 o4.1), (8, .int .i64 o4.2)] ∧ m.le m7 ∧ St m7 (.blk b1 (.cells #[.int .i64 0, .string (⟨#[]⟩ : ByteArray), .int .i64 0, .int .i64 0] 42 (0, 0)) :: own) w') ?_ ?_
        · clear hr st
          rintro _ w10 ⟨o4, m7, rfl, rfl, hm, st⟩
          have hr := hrKu3
          clear hrKu3
          refine X_block_eq ?_
          refine X_then ?_
          refine W_seq ?_
          refine W_seq ?_
          refine W_region ?_
          refine WO_seg 2 [(78, .bool (decide (o4.2 > 9007199254740992)))] (by kernel_rfl) (by kernel_rfl) ?_
          refine WO_end rfl ?_
          refine X_then ?_
          refine W_cond (decide (o4.2 > 9007199254740992)) (by kernel_rfl) ?_ ?_
          · intro hc
            rw [if_pos hc] at hr
            refine W_seq ?_
            refine W_region ?_
            refine WO_one rfl (One_load_own (d := 79) (t := 42) (x := (.tmp 4)) (.agg #[.int .i64 0, .string (⟨#[]⟩ : ByteArray), .int .i64 0, .int .i64 0]) (by kernel_rfl) rfl (show evL _ _ = some (.pointer (some ⟨b1, 0, none⟩)) from (by kernel_rfl)) st.head (by kernel_rfl) ?_)
            refine WO_one rfl (One_store (t := 42) (x := (.tmp 4)) (y := (.tmp 79)) (v := .agg #[.int .i64 0, .string (⟨#[]⟩ : ByteArray), .int .i64 0, .int .i64 0]) (c' := #[.int .i64 0, .string (⟨#[]⟩ : ByteArray), .int .i64 0, .int .i64 0]) (by kernel_rfl) (show evL _ _ = some (.pointer (some ⟨b1, 0, none⟩)) from (by kernel_rfl)) (show evL _ _ = some (.agg #[.int .i64 0, .string (⟨#[]⟩ : ByteArray), .int .i64 0, .int .i64 0]) from (by kernel_rfl)) st (by kernel_rfl) (by kernel_rfl) ?_)
            clear st
            intro w14 st
            refine WO_seg 2 [(5, .int .i64 0), (6, .int .i64 3)] (by kernel_rfl) (by kernel_rfl) ?_
            refine WO_end rfl ?_
            refine X_then ?_
            refine W_ret ?_
            refine X_then_ret ?_
            refine X_block_ret ?_
            refine X_then_ret ?_
            obtain rfl := Option.some.inj hr
            refine X_ret [.cell 4 42, .tmp 5, .tmp 6] [.agg #[.int .i64 0, .string (⟨#[]⟩ : ByteArray), .int .i64 0, .int .i64 0], .int .i64 0, .int .i64 3] rfl (ResAll.cons (ResAt.blk (v := .agg #[.int .i64 0, .string (⟨#[]⟩ : ByteArray), .int .i64 0, .int .i64 0]) (o := 0) (by kernel_rfl) st.head (by kernel_rfl)) (ResAll.cons (ResAt.tmp (by kernel_rfl)) (ResAll.cons (ResAt.tmp (by kernel_rfl)) ResAll.nil))) ?_
            have st := st.tail
            exact ⟨m7, rfl, hm, st⟩
          · intro hc
            rw [if_neg (not_true hc)] at hr
            refine W_skip ?_
            refine X_then ?_
            refine W_seq ?_
            refine W_region ?_
            refine WO_seg 4 [(82, .agg #[.int .i64 2, .string (⟨#[]⟩ : ByteArray), .int .i64 o4.2, .int .i64 p1]), (83, .int .i64 o4.1)] (by kernel_rfl) (by kernel_rfl) ?_
            refine WO_one rfl (One_store (t := 42) (x := (.tmp 4)) (y := (.tmp 82)) (v := .agg #[.int .i64 2, .string (⟨#[]⟩ : ByteArray), .int .i64 o4.2, .int .i64 p1]) (c' := #[.int .i64 2, .string (⟨#[]⟩ : ByteArray), .int .i64 o4.2, .int .i64 p1]) (by kernel_rfl) (show evL _ _ = some (.pointer (some ⟨b1, 0, none⟩)) from (by kernel_rfl)) (show evL _ _ = some (.agg #[.int .i64 2, .string (⟨#[]⟩ : ByteArray), .int .i64 o4.2, .int .i64 p1]) from (by kernel_rfl)) st (by kernel_rfl) (by kernel_rfl) ?_)
            clear st
            intro w15 st
            refine WO_seg 2 [(5, .int .i64 o4.1), (6, .int .i64 0)] (by kernel_rfl) (by kernel_rfl) ?_
            refine WO_end rfl ?_
            refine X_then ?_
            refine W_ret ?_
            refine X_block_ret ?_
            refine X_then_ret ?_
            obtain rfl := Option.some.inj hr
            refine X_ret [.cell 4 42, .tmp 5, .tmp 6] [.agg #[.int .i64 2, .string (⟨#[]⟩ : ByteArray), .int .i64 o4.2, .int .i64 p1], .int .i64 o4.1, .int .i64 0] rfl (ResAll.cons (ResAt.blk (v := .agg #[.int .i64 2, .string (⟨#[]⟩ : ByteArray), .int .i64 o4.2, .int .i64 p1]) (o := 0) (by kernel_rfl) st.head (by kernel_rfl)) (ResAll.cons (ResAt.tmp (by kernel_rfl)) (ResAll.cons (ResAt.tmp (by kernel_rfl)) ResAll.nil))) ?_
            have st := st.tail
            exact ⟨m7, rfl, hm, st⟩
        intro K3_u3
        clear hrKu3
        refine W_env _ (by kernel_rfl) (W_loop (fun k2 L' w' => ∃ (s3 : Int × Int) (m8 : Mem), loopM (testgateref04_token_L2 N p0) k2 s3 = some out2 ∧ L' = [(0, .string p0), (1, .int .i64 p1), (4, .pointer (some ⟨b1, 0, none⟩)), (5, .int .i64 s3.1), (8, .int .i64 s3.2)] ∧ m.le m8 ∧ St m8 (.blk b1 (.cells #[.int .i64 0, .string (⟨#[]⟩ : ByteArray), .int .i64 0, .int .i64 0] 42 (0, 0)) :: own) w') N ⟨(p1, 0), m6, hr, rfl, hm, st⟩ ?_)
        clear st hr
        rintro k2 _ w11 ⟨s3, m8, hL, rfl, hm, st⟩
        rcases k2 with _ | k2
        · exact loopM_zero hL
        · obtain ⟨qu3, hr, hSu3, hBu3⟩ := loopM_succ hL
          clear hL
          unfold testgateref04_token_L2 at hr
          refine W_seq ?_
          refine W_seq ?_
          refine W_region ?_
          replace hr := bindS hr
          obtain ⟨o5, hr, hrK⟩ := hr
          refine WO_cut (j := 16) (fun L' w' => ∃ (m9 : Mem), L' = [(0, .string p0), (1, .int .i64 p1), (4, .pointer (some ⟨b1, 0, none⟩)), (5, .int .i64 s3.1), (8, .int .i64 s3.2), (64, .bool o5)] ∧ m.le m9 ∧ St m9 (.blk b1 (.cells #[.int .i64 0, .string (⟨#[]⟩ : ByteArray), .int .i64 0, .int .i64 0] 42 (0, 0)) :: own) w') ?_ ?_
          · clear hr st
            have hr := hrK
            clear hrK
            rintro _ w12 ⟨m9, rfl, hm, st⟩
            refine WO_end rfl ?_
            refine X_then ?_
            refine W_cond o5 (by kernel_rfl) ?_ ?_
            · intro hc
              rw [if_pos hc] at hr
              refine W_skip ?_
              refine X_then ?_
              refine W_block ?_
              refine W_seq ?_
              refine W_seq ?_
              refine W_region ?_
              refine WO_seg 2 [(66, .bool (decide (s3.2 ≤ 9007199254740992)))] (by kernel_rfl) (by kernel_rfl) ?_
              refine WO_end rfl ?_
              refine X_then ?_
              replace hr := bindS hr
              obtain ⟨o6, hr, hrKu4⟩ := hr
              refine W_cut .normal (fun L' w' => ∃ (m10 : Mem), L' = [(0, .string p0), (1, .int .i64 p1), (4, .pointer (some ⟨b1, 0, none⟩)), (5, .int .i64 s3.1), (8, .int .i64 o6)] ∧ m.le m10 ∧ St m10 (.blk b1 (.cells #[.int .i64 0, .string (⟨#[]⟩ : ByteArray), .int .i64 0, .int .i64 0] 42 (0, 0)) :: own) w') ?_ ?_
              · clear hr st
                have hr := hrKu4
                clear hrKu4
                rintro _ w13 ⟨m10, rfl, hm, st⟩
                refine X_then ?_
                refine W_region ?_
                refine WO_seg 3 [(5, .int .i64 (IntKind.wrap .i64 (s3.1 + 1)))] (by kernel_rfl) (by kernel_rfl) ?_
                refine WO_end rfl ?_
                refine X_block ?_
                obtain rfl := Option.some.inj hr
                have hL := hSu3 _ rfl
                exact X_env _ (by kernel_rfl) (X_round k2 (Nat.lt_succ_self _) ⟨(IntKind.wrap .i64 (s3.1 + 1), o6), m10, hL, rfl, hm, st⟩)
              · intro Ku4
                clear hrKu4
                refine W_cond (decide (s3.2 ≤ 9007199254740992)) (by kernel_rfl) ?_ ?_
                · intro hc
                  rw [if_pos hc] at hr
                  refine W_region ?_
                  refine WO_seg 4 [(68, .int .i64 (IntKind.wrap .i64 (s3.2 * 10))), (69, .string p0), (70, .int .i64 s3.1)] (by kernel_rfl) (by kernel_rfl) ?_
                  replace hr := bindS hr
                  obtain ⟨x5, hx8, hr⟩ := hr
                  refine WO_one rfl (One_strIndex (d := 71) (t := 9) (x := (.tmp 69)) (y := (.tmp 70)) (by kernel_rfl) rfl (show evL _ _ = some (.string p0) from (by kernel_rfl)) (show evL _ _ = some (.int .i64 s3.1) from (by kernel_rfl)) (by kernel_rfl) hx8 ?_)
                  refine WO_seg 4 [(8, .int .i64 (IntKind.wrap .i64 ((IntKind.wrap .i64 (s3.2 * 10)) + (IntKind.wrap .i64 (IntKind.wrap .u8 ((x5.toNat : Int) - 48))))))] (by kernel_rfl) (by kernel_rfl) ?_
                  refine WO_end rfl ?_
                  obtain rfl := Option.some.inj hr
                  exact X_env _ (by kernel_rfl) (Ku4 _ _ ⟨m9, rfl, hm, st⟩)
                · intro hc
                  rw [if_neg (not_true hc)] at hr
                  refine W_skip ?_
                  obtain rfl := Option.some.inj hr
                  exact X_env _ (by kernel_rfl) (Ku4 _ _ ⟨m9, rfl, hm, st⟩)
            · intro hc
              rw [if_neg (not_true hc)] at hr
              refine W_exit ?_
              refine X_then_exit ?_
              obtain rfl := Option.some.inj hr
              have ho := hBu3 _ rfl
              refine X_then_exit ?_
              exact X_env _ (by kernel_rfl) (K3_u3 _ _ ⟨(s3.1, s3.2), m9, ho, rfl, hm, st⟩)
          · intro K
            clear hrK
            refine WO_seg 5 [(53, .bool (decide (s3.1 < (ByteArray.size p0 : Int))))] (by kernel_rfl) (by kernel_rfl) ?_
            rcases bcases (decide (s3.1 < (ByteArray.size p0 : Int))) with hc | hc
            · rw [if_pos hc] at hr
              refine WO_fact (t := 53) (b := true) (decide (s3.1 < (ByteArray.size p0 : Int))) (by kernel_rfl) hc ?_
              refine WO_seg 2 [(54, .string p0), (55, .int .i64 s3.1)] (by kernel_rfl) (by kernel_rfl) ?_
              replace hr := bindS hr
              obtain ⟨x3, hx6, hr⟩ := hr
              refine WO_one rfl (One_strIndex (d := 56) (t := 9) (x := (.tmp 54)) (y := (.tmp 55)) (by kernel_rfl) rfl (show evL _ _ = some (.string p0) from (by kernel_rfl)) (show evL _ _ = some (.int .i64 s3.1) from (by kernel_rfl)) (by kernel_rfl) hx6 ?_)
              refine WO_seg 3 [(59, .bool (decide ((x3.toNat : Int) ≥ 48)))] (by kernel_rfl) (by kernel_rfl) ?_
              rcases bcases (decide ((x3.toNat : Int) ≥ 48)) with hc | hc
              · rw [if_pos hc] at hr
                refine WO_fact (t := 59) (b := true) (decide ((x3.toNat : Int) ≥ 48)) (by kernel_rfl) hc ?_
                refine WO_seg 2 [(60, .string p0), (61, .int .i64 s3.1)] (by kernel_rfl) (by kernel_rfl) ?_
                replace hr := bindS hr
                obtain ⟨x4, hx7, hr⟩ := hr
                refine WO_one rfl (One_strIndex (d := 62) (t := 9) (x := (.tmp 60)) (y := (.tmp 61)) (by kernel_rfl) rfl (show evL _ _ = some (.string p0) from (by kernel_rfl)) (show evL _ _ = some (.int .i64 s3.1) from (by kernel_rfl)) (by kernel_rfl) hx7 ?_)
                refine WO_seg 2 [(64, .bool (decide ((x4.toNat : Int) ≤ 57)))] (by kernel_rfl) (by kernel_rfl) ?_
                obtain rfl := Option.some.inj hr
                exact WO_env _ (by kernel_rfl) (K _ _ ⟨m8, rfl, hm, st⟩)
              · rw [if_neg (not_true hc)] at hr
                refine WO_fact (t := 59) (b := false) (decide ((x3.toNat : Int) ≥ 48)) (by kernel_rfl) hc ?_
                refine WO_seg 5 [(64, .bool false)] (by kernel_rfl) (by kernel_rfl) ?_
                obtain rfl := Option.some.inj hr
                exact WO_env _ (by kernel_rfl) (K _ _ ⟨m8, rfl, hm, st⟩)
            · rw [if_neg (not_true hc)] at hr
              refine WO_fact (t := 53) (b := false) (decide (s3.1 < (ByteArray.size p0 : Int))) (by kernel_rfl) hc ?_
              refine WO_seg 11 [(64, .bool false)] (by kernel_rfl) (by kernel_rfl) ?_
              obtain rfl := Option.some.inj hr
              exact WO_env _ (by kernel_rfl) (K _ _ ⟨m8, rfl, hm, st⟩)
      · intro hc
        rw [if_neg (not_true hc)] at hr
        refine W_seq ?_
        refine W_region ?_
        refine WO_seg 3 [(84, .bool ((x1.toNat : Int) == 34))] (by kernel_rfl) (by kernel_rfl) ?_
        refine WO_end rfl ?_
        refine X_then ?_
        refine W_cond ((x1.toNat : Int) == 34) (by kernel_rfl) ?_ ?_
        · intro hc
          rw [if_pos hc] at hr
          refine W_seq ?_
          refine W_region ?_
          refine WO_seg 3 [(5, .int .i64 (IntKind.wrap .i64 (p1 + 1)))] (by kernel_rfl) (by kernel_rfl) ?_
          refine WO_end rfl ?_
          refine X_then ?_
          refine W_seq ?_
          refine W_block ?_
          replace hr := bindS hr
          obtain ⟨out3, hr, hrKu6⟩ := hr
          refine W_cut (.exit 5) (fun L' w' => ∃ (o7 : Int) (m11 : Mem), o7 = out3 ∧ L' = [(0, .string p0), (1, .int .i64 p1), (4, .pointer (some ⟨b1, 0, none⟩)), (5, .int .i64 o7)] ∧ m.le m11 ∧ St m11 (.blk b1 (.cells #[.int .i64 0, .string (⟨#[]⟩ : ByteArray), .int .i64 0, .int .i64 0] 42 (0, 0)) :: own) w') ?_ ?_
          · clear hr st
            rintro _ w16 ⟨o7, m11, rfl, rfl, hm, st⟩
            have hr := hrKu6
            clear hrKu6
            refine X_block_eq ?_
            refine X_then ?_
            refine W_seq ?_
            refine W_seq ?_
            refine W_region ?_
            replace hr := bindS hr
            obtain ⟨o9, hr, hrK⟩ := hr
            refine WO_cut (j := 10) (fun L' w' => ∃ (m14 : Mem), L' = [(0, .string p0), (1, .int .i64 p1), (4, .pointer (some ⟨b1, 0, none⟩)), (5, .int .i64 o7), (122, .bool o9)] ∧ m.le m14 ∧ St m14 (.blk b1 (.cells #[.int .i64 0, .string (⟨#[]⟩ : ByteArray), .int .i64 0, .int .i64 0] 42 (0, 0)) :: own) w') ?_ ?_
            · clear hr st
              have hr := hrK
              clear hrK
              rintro _ w19 ⟨m14, rfl, hm, st⟩
              refine WO_end rfl ?_
              refine X_then ?_
              refine W_cond o9 (by kernel_rfl) ?_ ?_
              · intro hc
                rw [if_pos hc] at hr
                refine W_seq ?_
                refine W_region ?_
                refine WO_one rfl (One_load_own (d := 123) (t := 42) (x := (.tmp 4)) (.agg #[.int .i64 0, .string (⟨#[]⟩ : ByteArray), .int .i64 0, .int .i64 0]) (by kernel_rfl) rfl (show evL _ _ = some (.pointer (some ⟨b1, 0, none⟩)) from (by kernel_rfl)) st.head (by kernel_rfl) ?_)
                refine WO_one rfl (One_store (t := 42) (x := (.tmp 4)) (y := (.tmp 123)) (v := .agg #[.int .i64 0, .string (⟨#[]⟩ : ByteArray), .int .i64 0, .int .i64 0]) (c' := #[.int .i64 0, .string (⟨#[]⟩ : ByteArray), .int .i64 0, .int .i64 0]) (by kernel_rfl) (show evL _ _ = some (.pointer (some ⟨b1, 0, none⟩)) from (by kernel_rfl)) (show evL _ _ = some (.agg #[.int .i64 0, .string (⟨#[]⟩ : ByteArray), .int .i64 0, .int .i64 0]) from (by kernel_rfl)) st (by kernel_rfl) (by kernel_rfl) ?_)
                clear st
                intro w20 st
                refine WO_seg 2 [(5, .int .i64 0), (6, .int .i64 9)] (by kernel_rfl) (by kernel_rfl) ?_
                refine WO_end rfl ?_
                refine X_then ?_
                refine W_ret ?_
                refine X_then_ret ?_
                refine X_block_ret ?_
                refine X_then_ret ?_
                obtain rfl := Option.some.inj hr
                refine X_ret [.cell 4 42, .tmp 5, .tmp 6] [.agg #[.int .i64 0, .string (⟨#[]⟩ : ByteArray), .int .i64 0, .int .i64 0], .int .i64 0, .int .i64 9] rfl (ResAll.cons (ResAt.blk (v := .agg #[.int .i64 0, .string (⟨#[]⟩ : ByteArray), .int .i64 0, .int .i64 0]) (o := 0) (by kernel_rfl) st.head (by kernel_rfl)) (ResAll.cons (ResAt.tmp (by kernel_rfl)) (ResAll.cons (ResAt.tmp (by kernel_rfl)) ResAll.nil))) ?_
                have st := st.tail
                exact ⟨m14, rfl, hm, st⟩
              · intro hc
                rw [if_neg (not_true hc)] at hr
                refine W_skip ?_
                refine X_then ?_
                refine W_seq ?_
                refine W_region ?_
                refine WO_seg 4 [(124, .string p0), (126, .int .i64 (IntKind.wrap .i64 (p1 + 1))), (127, .int .i64 o7)] (by kernel_rfl) (by kernel_rfl) ?_
                replace hr := bindS hr
                obtain ⟨s5, hx13, hr⟩ := hr
                refine WO_one rfl (One_strSlice (d := 128) (t := 9) (x := (.tmp 124)) (lo := (some (.tmp 126))) (hi := (some (.tmp 127))) (by kernel_rfl) rfl (show evL _ _ = some (.string p0) from (by kernel_rfl)) (by kernel_rfl) (.inr ⟨_, _, rfl, (show evL _ _ = some (.int .i64 (IntKind.wrap .i64 (p1 + 1))) from (by kernel_rfl))⟩) (.inr ⟨_, _, rfl, (show evL _ _ = some (.int .i64 o7) from (by kernel_rfl))⟩) hx13 ?_)
                refine WO_seg 4 [(130, .agg #[.int .i64 3, .string s5, .int .i64 0, .int .i64 p1]), (132, .int .i64 (IntKind.wrap .i64 (o7 + 1)))] (by kernel_rfl) (by kernel_rfl) ?_
                refine WO_one rfl (One_store (t := 42) (x := (.tmp 4)) (y := (.tmp 130)) (v := .agg #[.int .i64 3, .string s5, .int .i64 0, .int .i64 p1]) (c' := #[.int .i64 3, .string s5, .int .i64 0, .int .i64 p1]) (by kernel_rfl) (show evL _ _ = some (.pointer (some ⟨b1, 0, none⟩)) from (by kernel_rfl)) (show evL _ _ = some (.agg #[.int .i64 3, .string s5, .int .i64 0, .int .i64 p1]) from (by kernel_rfl)) st (by kernel_rfl) (by kernel_rfl) ?_)
                clear st
                intro w21 st
                refine WO_seg 2 [(5, .int .i64 (IntKind.wrap .i64 (o7 + 1))), (6, .int .i64 0)] (by kernel_rfl) (by kernel_rfl) ?_
                refine WO_end rfl ?_
                refine X_then ?_
                refine W_ret ?_
                refine X_block_ret ?_
                refine X_then_ret ?_
                obtain rfl := Option.some.inj hr
                refine X_ret [.cell 4 42, .tmp 5, .tmp 6] [.agg #[.int .i64 3, .string s5, .int .i64 0, .int .i64 p1], .int .i64 (IntKind.wrap .i64 (o7 + 1)), .int .i64 0] rfl (ResAll.cons (ResAt.blk (v := .agg #[.int .i64 3, .string s5, .int .i64 0, .int .i64 p1]) (o := 0) (by kernel_rfl) st.head (by kernel_rfl)) (ResAll.cons (ResAt.tmp (by kernel_rfl)) (ResAll.cons (ResAt.tmp (by kernel_rfl)) ResAll.nil))) ?_
                have st := st.tail
                exact ⟨m14, rfl, hm, st⟩
            · intro K
              clear hrK
              refine WO_seg 5 [(117, .bool (o7 == (ByteArray.size p0 : Int)))] (by kernel_rfl) (by kernel_rfl) ?_
              rcases bcases (o7 == (ByteArray.size p0 : Int)) with hc | hc
              · rw [if_pos hc] at hr
                refine WO_fact (t := 117) (b := true) (o7 == (ByteArray.size p0 : Int)) (by kernel_rfl) hc ?_
                refine WO_seg 5 [(122, .bool true)] (by kernel_rfl) (by kernel_rfl) ?_
                obtain rfl := Option.some.inj hr
                exact WO_env _ (by kernel_rfl) (K _ _ ⟨m11, rfl, hm, st⟩)
              · rw [if_neg (not_true hc)] at hr
                refine WO_fact (t := 117) (b := false) (o7 == (ByteArray.size p0 : Int)) (by kernel_rfl) hc ?_
                refine WO_seg 2 [(118, .string p0), (119, .int .i64 o7)] (by kernel_rfl) (by kernel_rfl) ?_
                replace hr := bindS hr
                obtain ⟨x9, hx12, hr⟩ := hr
                refine WO_one rfl (One_strIndex (d := 120) (t := 9) (x := (.tmp 118)) (y := (.tmp 119)) (by kernel_rfl) rfl (show evL _ _ = some (.string p0) from (by kernel_rfl)) (show evL _ _ = some (.int .i64 o7) from (by kernel_rfl)) (by kernel_rfl) hx12 ?_)
                refine WO_seg 2 [(122, .bool ((x9.toNat : Int) != 34))] (by kernel_rfl) (by kernel_rfl) ?_
                obtain rfl := Option.some.inj hr
                exact WO_env _ (by kernel_rfl) (K _ _ ⟨m11, rfl, hm, st⟩)
          intro K5_u6
          clear hrKu6
          refine W_env _ (by kernel_rfl) (W_loop (fun k3 L' w' => ∃ (s4 : Int) (m12 : Mem), loopM (testgateref04_token_L3 N p0) k3 s4 = some out3 ∧ L' = [(0, .string p0), (1, .int .i64 p1), (4, .pointer (some ⟨b1, 0, none⟩)), (5, .int .i64 s4)] ∧ m.le m12 ∧ St m12 (.blk b1 (.cells #[.int .i64 0, .string (⟨#[]⟩ : ByteArray), .int .i64 0, .int .i64 0] 42 (0, 0)) :: own) w') N ⟨IntKind.wrap .i64 (p1 + 1), m6, hr, rfl, hm, st⟩ ?_)
          clear st hr
          rintro k3 _ w17 ⟨s4, m12, hL, rfl, hm, st⟩
          rcases k3 with _ | k3
          · exact loopM_zero hL
          · obtain ⟨qu6, hr, hSu6, hBu6⟩ := loopM_succ hL
            clear hL
            unfold testgateref04_token_L3 at hr
            refine W_seq ?_
            refine W_seq ?_
            refine W_region ?_
            replace hr := bindS hr
            obtain ⟨o8, hr, hrK⟩ := hr
            refine WO_cut (j := 22) (fun L' w' => ∃ (m13 : Mem), L' = [(0, .string p0), (1, .int .i64 p1), (4, .pointer (some ⟨b1, 0, none⟩)), (5, .int .i64 s4), (110, .bool o8)] ∧ m.le m13 ∧ St m13 (.blk b1 (.cells #[.int .i64 0, .string (⟨#[]⟩ : ByteArray), .int .i64 0, .int .i64 0] 42 (0, 0)) :: own) w') ?_ ?_
            · clear hr st
              have hr := hrK
              clear hrK
              rintro _ w18 ⟨m13, rfl, hm, st⟩
              refine WO_end rfl ?_
              refine X_then ?_
              refine W_cond o8 (by kernel_rfl) ?_ ?_
              · intro hc
                rw [if_pos hc] at hr
                refine W_skip ?_
                refine X_then ?_
                refine W_block ?_
                refine W_region ?_
                refine WO_seg 3 [(5, .int .i64 (IntKind.wrap .i64 (s4 + 1)))] (by kernel_rfl) (by kernel_rfl) ?_
                refine WO_end rfl ?_
                refine X_block ?_
                obtain rfl := Option.some.inj hr
                have hL := hSu6 _ rfl
                exact X_env _ (by kernel_rfl) (X_round k3 (Nat.lt_succ_self _) ⟨IntKind.wrap .i64 (s4 + 1), m13, hL, rfl, hm, st⟩)
              · intro hc
                rw [if_neg (not_true hc)] at hr
                refine W_exit ?_
                refine X_then_exit ?_
                obtain rfl := Option.some.inj hr
                have ho := hBu6 _ rfl
                refine X_then_exit ?_
                exact X_env _ (by kernel_rfl) (K5_u6 _ _ ⟨s4, m13, ho, rfl, hm, st⟩)
            · intro K
              clear hrK
              refine WO_seg 5 [(93, .bool (decide (s4 < (ByteArray.size p0 : Int))))] (by kernel_rfl) (by kernel_rfl) ?_
              rcases bcases (decide (s4 < (ByteArray.size p0 : Int))) with hc | hc
              · rw [if_pos hc] at hr
                refine WO_fact (t := 93) (b := true) (decide (s4 < (ByteArray.size p0 : Int))) (by kernel_rfl) hc ?_
                refine WO_seg 2 [(94, .string p0), (95, .int .i64 s4)] (by kernel_rfl) (by kernel_rfl) ?_
                replace hr := bindS hr
                obtain ⟨x6, hx9, hr⟩ := hr
                refine WO_one rfl (One_strIndex (d := 96) (t := 9) (x := (.tmp 94)) (y := (.tmp 95)) (by kernel_rfl) rfl (show evL _ _ = some (.string p0) from (by kernel_rfl)) (show evL _ _ = some (.int .i64 s4) from (by kernel_rfl)) (by kernel_rfl) hx9 ?_)
                refine WO_seg 3 [(99, .bool (decide ((x6.toNat : Int) ≥ 32)))] (by kernel_rfl) (by kernel_rfl) ?_
                rcases bcases (decide ((x6.toNat : Int) ≥ 32)) with hc | hc
                · rw [if_pos hc] at hr
                  refine WO_fact (t := 99) (b := true) (decide ((x6.toNat : Int) ≥ 32)) (by kernel_rfl) hc ?_
                  refine WO_seg 2 [(100, .string p0), (101, .int .i64 s4)] (by kernel_rfl) (by kernel_rfl) ?_
                  replace hr := bindS hr
                  obtain ⟨x7, hx10, hr⟩ := hr
                  refine WO_one rfl (One_strIndex (d := 102) (t := 9) (x := (.tmp 100)) (y := (.tmp 101)) (by kernel_rfl) rfl (show evL _ _ = some (.string p0) from (by kernel_rfl)) (show evL _ _ = some (.int .i64 s4) from (by kernel_rfl)) (by kernel_rfl) hx10 ?_)
                  refine WO_seg 3 [(105, .bool (decide ((x7.toNat : Int) ≤ 126)))] (by kernel_rfl) (by kernel_rfl) ?_
                  rcases bcases (decide ((x7.toNat : Int) ≤ 126)) with hc | hc
                  · rw [if_pos hc] at hr
                    refine WO_fact (t := 105) (b := true) (decide ((x7.toNat : Int) ≤ 126)) (by kernel_rfl) hc ?_
                    refine WO_seg 2 [(106, .string p0), (107, .int .i64 s4)] (by kernel_rfl) (by kernel_rfl) ?_
                    replace hr := bindS hr
                    obtain ⟨x8, hx11, hr⟩ := hr
                    refine WO_one rfl (One_strIndex (d := 108) (t := 9) (x := (.tmp 106)) (y := (.tmp 107)) (by kernel_rfl) rfl (show evL _ _ = some (.string p0) from (by kernel_rfl)) (show evL _ _ = some (.int .i64 s4) from (by kernel_rfl)) (by kernel_rfl) hx11 ?_)
                    refine WO_seg 2 [(110, .bool ((x8.toNat : Int) != 34))] (by kernel_rfl) (by kernel_rfl) ?_
                    obtain rfl := Option.some.inj hr
                    exact WO_env _ (by kernel_rfl) (K _ _ ⟨m12, rfl, hm, st⟩)
                  · rw [if_neg (not_true hc)] at hr
                    refine WO_fact (t := 105) (b := false) (decide ((x7.toNat : Int) ≤ 126)) (by kernel_rfl) hc ?_
                    refine WO_seg 5 [(110, .bool false)] (by kernel_rfl) (by kernel_rfl) ?_
                    obtain rfl := Option.some.inj hr
                    exact WO_env _ (by kernel_rfl) (K _ _ ⟨m12, rfl, hm, st⟩)
                · rw [if_neg (not_true hc)] at hr
                  refine WO_fact (t := 99) (b := false) (decide ((x6.toNat : Int) ≥ 32)) (by kernel_rfl) hc ?_
                  refine WO_seg 11 [(110, .bool false)] (by kernel_rfl) (by kernel_rfl) ?_
                  obtain rfl := Option.some.inj hr
                  exact WO_env _ (by kernel_rfl) (K _ _ ⟨m12, rfl, hm, st⟩)
              · rw [if_neg (not_true hc)] at hr
                refine WO_fact (t := 93) (b := false) (decide (s4 < (ByteArray.size p0 : Int))) (by kernel_rfl) hc ?_
                refine WO_seg 17 [(110, .bool false)] (by kernel_rfl) (by kernel_rfl) ?_
                obtain rfl := Option.some.inj hr
                exact WO_env _ (by kernel_rfl) (K _ _ ⟨m12, rfl, hm, st⟩)
        · intro hc
          rw [if_neg (not_true hc)] at hr
          refine W_skip ?_
          refine X_block ?_
          refine X_then ?_
          refine W_seq ?_
          refine W_seq ?_
          refine W_region ?_
          replace hr := bindS hr
          obtain ⟨o10, hr, hrK⟩ := hr
          refine WO_cut (j := 18) (fun L' w' => ∃ (m15 : Mem), L' = [(0, .string p0), (1, .int .i64 p1), (4, .pointer (some ⟨b1, 0, none⟩)), (150, .bool o10)] ∧ m.le m15 ∧ St m15 (.blk b1 (.cells #[.int .i64 0, .string (⟨#[]⟩ : ByteArray), .int .i64 0, .int .i64 0] 42 (0, 0)) :: own) w') ?_ ?_
          · clear hr st
            have hr := hrK
            clear hrK
            rintro _ w22 ⟨m15, rfl, hm, st⟩
            refine WO_end rfl ?_
            refine X_then ?_
            refine W_cond o10 (by kernel_rfl) ?_ ?_
            · intro hc
              rw [if_pos hc] at hr
              refine W_seq ?_
              refine W_region ?_
              refine WO_seg 4 [(152, .agg #[.int .i64 4, .string (⟨#[61, 61]⟩ : ByteArray), .int .i64 0, .int .i64 p1]), (154, .int .i64 (IntKind.wrap .i64 (p1 + 2)))] (by kernel_rfl) (by kernel_rfl) ?_
              refine WO_one rfl (One_store (t := 42) (x := (.tmp 4)) (y := (.tmp 152)) (v := .agg #[.int .i64 4, .string (⟨#[61, 61]⟩ : ByteArray), .int .i64 0, .int .i64 p1]) (c' := #[.int .i64 4, .string (⟨#[61, 61]⟩ : ByteArray), .int .i64 0, .int .i64 p1]) (by kernel_rfl) (show evL _ _ = some (.pointer (some ⟨b1, 0, none⟩)) from (by kernel_rfl)) (show evL _ _ = some (.agg #[.int .i64 4, .string (⟨#[61, 61]⟩ : ByteArray), .int .i64 0, .int .i64 p1]) from (by kernel_rfl)) st (by kernel_rfl) (by kernel_rfl) ?_)
              clear st
              intro w23 st
              refine WO_seg 2 [(5, .int .i64 (IntKind.wrap .i64 (p1 + 2))), (6, .int .i64 0)] (by kernel_rfl) (by kernel_rfl) ?_
              refine WO_end rfl ?_
              refine X_then ?_
              refine W_ret ?_
              refine X_then_ret ?_
              obtain rfl := Option.some.inj hr
              refine X_ret [.cell 4 42, .tmp 5, .tmp 6] [.agg #[.int .i64 4, .string (⟨#[61, 61]⟩ : ByteArray), .int .i64 0, .int .i64 p1], .int .i64 (IntKind.wrap .i64 (p1 + 2)), .int .i64 0] rfl (ResAll.cons (ResAt.blk (v := .agg #[.int .i64 4, .string (⟨#[61, 61]⟩ : ByteArray), .int .i64 0, .int .i64 p1]) (o := 0) (by kernel_rfl) st.head (by kernel_rfl)) (ResAll.cons (ResAt.tmp (by kernel_rfl)) (ResAll.cons (ResAt.tmp (by kernel_rfl)) ResAll.nil))) ?_
              have st := st.tail
              exact ⟨m15, rfl, hm, st⟩
            · intro hc
              rw [if_neg (not_true hc)] at hr
              refine W_skip ?_
              refine X_then ?_
              refine W_seq ?_
              refine W_seq ?_
              refine W_region ?_
              refine WO_one rfl (One_buildSlice (d := 155) (t := 43) (e := 5) (len := 11) (parts := #[(0, (.const (.int .u8 59))), (1, (.const (.int .u8 44))), (2, (.const (.int .u8 40))), (3, (.const (.int .u8 41))), (4, (.const (.int .u8 43))), (5, (.const (.int .u8 45))), (6, (.const (.int .u8 42))), (7, (.const (.int .u8 47))), (8, (.const (.int .u8 37))), (9, (.const (.int .u8 60))), (10, (.const (.int .u8 61)))]) cU8 (xs := [(59 : UInt8), (44 : UInt8), (40 : UInt8), (41 : UInt8), (43 : UInt8), (45 : UInt8), (42 : UInt8), (47 : UInt8), (37 : UInt8), (60 : UInt8), (61 : UInt8)]) [.int .u8 59, .int .u8 44, .int .u8 40, .int .u8 41, .int .u8 43, .int .u8 45, .int .u8 42, .int .u8 47, .int .u8 37, .int .u8 60, .int .u8 61] (by kernel_rfl) rfl (fun _ => buildCells_run (by kernel_rfl) _) rfl rfl st ⟨[.int .u8 59], _, rfl, rfl, ⟨[.int .u8 44], _, rfl, rfl, ⟨[.int .u8 40], _, rfl, rfl, ⟨[.int .u8 41], _, rfl, rfl, ⟨[.int .u8 43], _, rfl, rfl, ⟨[.int .u8 45], _, rfl, rfl, ⟨[.int .u8 42], _, rfl, rfl, ⟨[.int .u8 47], _, rfl, rfl, ⟨[.int .u8 37], _, rfl, rfl, ⟨[.int .u8 60], _, rfl, rfl, ⟨[.int .u8 61], _, rfl, rfl, rfl⟩⟩⟩⟩⟩⟩⟩⟩⟩⟩⟩ ?_)
              clear st
              intro b2 m16 w24 hle3 st r1
              have hm := Mem.le_trans hm hle3
              refine WO_one rfl (One_sliceSame (d := 156) (t := 43) (e := 5) (x := (.tmp 155)) (by kernel_rfl) rfl (show evL _ _ = some (.slice (some ⟨b2, 0, none⟩) (List.length ([(59 : UInt8), (44 : UInt8), (40 : UInt8), (41 : UInt8), (43 : UInt8), (45 : UInt8), (42 : UInt8), (47 : UInt8), (37 : UInt8), (60 : UInt8), (61 : UInt8)])) 11) from (by kernel_rfl)) (by kernel_rfl) st ?_)
              clear st
              intro w25 st
              refine WO_seg 2 [(157, .int .i64 (List.length ([(59 : UInt8), (44 : UInt8), (40 : UInt8), (41 : UInt8), (43 : UInt8), (45 : UInt8), (42 : UInt8), (47 : UInt8), (37 : UInt8), (60 : UInt8), (61 : UInt8)]) : Int)), (158, .int .i64 0)] (by kernel_rfl) (by kernel_rfl) ?_
              refine WO_end rfl ?_
              refine X_then ?_
              refine W_block ?_
              replace hr := bindS hr
              obtain ⟨out4, hr, hrKu9⟩ := hr
              refine W_cut (.exit 7) (fun L' w' => ∃ (o11 : Unit) (m17 : Mem), (.inl o11) = out4 ∧ L' = [(4, .pointer (some ⟨b1, 0, none⟩))] ∧ m.le m17 ∧ St m17 (.blk b1 (.cells #[.int .i64 0, .string (⟨#[]⟩ : ByteArray), .int .i64 0, .int .i64 0] 42 (0, 0)) :: own) w') ?_ ?_
              · clear hr st
                rintro _ w26 ⟨o11, m17, rfl, rfl, hm, st⟩
                have hr := hrKu9
                clear hrKu9
                dsimp only at hr
                refine X_block_eq ?_
                refine X_then ?_
                refine W_seq ?_
                refine W_region ?_
                refine WO_one rfl (One_load_own (d := 177) (t := 42) (x := (.tmp 4)) (.agg #[.int .i64 0, .string (⟨#[]⟩ : ByteArray), .int .i64 0, .int .i64 0]) (by kernel_rfl) rfl (show evL _ _ = some (.pointer (some ⟨b1, 0, none⟩)) from (by kernel_rfl)) st.head (by kernel_rfl) ?_)
                refine WO_one rfl (One_store (t := 42) (x := (.tmp 4)) (y := (.tmp 177)) (v := .agg #[.int .i64 0, .string (⟨#[]⟩ : ByteArray), .int .i64 0, .int .i64 0]) (c' := #[.int .i64 0, .string (⟨#[]⟩ : ByteArray), .int .i64 0, .int .i64 0]) (by kernel_rfl) (show evL _ _ = some (.pointer (some ⟨b1, 0, none⟩)) from (by kernel_rfl)) (show evL _ _ = some (.agg #[.int .i64 0, .string (⟨#[]⟩ : ByteArray), .int .i64 0, .int .i64 0]) from (by kernel_rfl)) st (by kernel_rfl) (by kernel_rfl) ?_)
                clear st
                intro w29 st
                refine WO_seg 2 [(5, .int .i64 0), (6, .int .i64 9)] (by kernel_rfl) (by kernel_rfl) ?_
                refine WO_end rfl ?_
                refine X_then ?_
                refine W_ret ?_
                obtain rfl := Option.some.inj hr
                refine X_ret [.cell 4 42, .tmp 5, .tmp 6] [.agg #[.int .i64 0, .string (⟨#[]⟩ : ByteArray), .int .i64 0, .int .i64 0], .int .i64 0, .int .i64 9] rfl (ResAll.cons (ResAt.blk (v := .agg #[.int .i64 0, .string (⟨#[]⟩ : ByteArray), .int .i64 0, .int .i64 0]) (o := 0) (by kernel_rfl) st.head (by kernel_rfl)) (ResAll.cons (ResAt.tmp (by kernel_rfl)) (ResAll.cons (ResAt.tmp (by kernel_rfl)) ResAll.nil))) ?_
                have st := st.tail
                exact ⟨m17, rfl, hm, st⟩
              intro K7_u9
              refine W_env _ (by kernel_rfl) (W_loop (fun k4 L' w' => ∃ (s6 : Int) (m18 : Mem), loopM (testgateref04_token_L4 N p0 p1) k4 s6 = some out4 ∧ L' = [(0, .string p0), (1, .int .i64 p1), (4, .pointer (some ⟨b1, 0, none⟩)), (156, .slice (some ⟨b2, 0, none⟩) (List.length ([(59 : UInt8), (44 : UInt8), (40 : UInt8), (41 : UInt8), (43 : UInt8), (45 : UInt8), (42 : UInt8), (47 : UInt8), (37 : UInt8), (60 : UInt8), (61 : UInt8)])) 11), (157, .int .i64 (List.length ([(59 : UInt8), (44 : UInt8), (40 : UInt8), (41 : UInt8), (43 : UInt8), (45 : UInt8), (42 : UInt8), (47 : UInt8), (37 : UInt8), (60 : UInt8), (61 : UInt8)]) : Int)), (158, .int .i64 s6)] ∧ m.le m18 ∧ St m18 (.blk b1 (.cells #[.int .i64 0, .string (⟨#[]⟩ : ByteArray), .int .i64 0, .int .i64 0] 42 (0, 0)) :: own) w' ∧ RepS cU8 m18 (some ⟨b2, 0, none⟩) 11 ([(59 : UInt8), (44 : UInt8), (40 : UInt8), (41 : UInt8), (43 : UInt8), (45 : UInt8), (42 : UInt8), (47 : UInt8), (37 : UInt8), (60 : UInt8), (61 : UInt8)])) N ⟨0, m16, hr, rfl, hm, st, r1⟩ ?_)
              clear st hr
              rintro k4 _ w27 ⟨s6, m18, hL, rfl, hm, st, r1⟩
              rcases k4 with _ | k4
              · exact loopM_zero hL
              · obtain ⟨qu9, hr, hSu9, hBu9⟩ := loopM_succ hL
                clear hL
                unfold testgateref04_token_L4 at hr
                refine W_seq ?_
                refine W_region ?_
                refine WO_seg 1 [(159, .bool (decide (s6 < (List.length ([(59 : UInt8), (44 : UInt8), (40 : UInt8), (41 : UInt8), (43 : UInt8), (45 : UInt8), (42 : UInt8), (47 : UInt8), (37 : UInt8), (60 : UInt8), (61 : UInt8)]) : Int))))] (by kernel_rfl) (by kernel_rfl) ?_
                refine WO_end rfl ?_
                refine X_then ?_
                refine W_seq ?_
                refine W_cond (decide (s6 < (List.length ([(59 : UInt8), (44 : UInt8), (40 : UInt8), (41 : UInt8), (43 : UInt8), (45 : UInt8), (42 : UInt8), (47 : UInt8), (37 : UInt8), (60 : UInt8), (61 : UInt8)]) : Int))) (by kernel_rfl) ?_ ?_
                · intro hc
                  rw [if_pos hc] at hr
                  refine W_skip ?_
                  refine X_then ?_
                  refine W_seq ?_
                  refine W_block ?_
                  refine W_seq ?_
                  refine W_region ?_
                  replace hr := bindS hr
                  obtain ⟨x12, hx16, hr⟩ := hr
                  refine WO_one rfl (One_index (d := 160) (t := 43) (e := 5) (x := (.tmp 156)) (y := (.tmp 158)) cU8 (by kernel_rfl) rfl (show evL _ _ = some (.slice (some ⟨b2, 0, none⟩) (List.length ([(59 : UInt8), (44 : UInt8), (40 : UInt8), (41 : UInt8), (43 : UInt8), (45 : UInt8), (42 : UInt8), (47 : UInt8), (37 : UInt8), (60 : UInt8), (61 : UInt8)])) 11) from (by kernel_rfl)) (show evL _ _ = some (.int .i64 s6) from (by kernel_rfl)) (by kernel_rfl) r1 hx16 ?_)
                  rintro b3 f1 cs1 rfl hq1
                  refine WO_one rfl (One_load_row (d := 161) (t := 5) (x := (.tmp 160)) (.int .u8 (x12.toNat : Int)) (by kernel_rfl) rfl (show evL _ _ = some (.pointer (some ⟨b3, f1, none⟩)) from (by kernel_rfl)) st hq1 (by kernel_rfl) ?_)
                  refine WO_seg 1 [(10, .int .u8 (x12.toNat : Int))] (by kernel_rfl) (by kernel_rfl) ?_
                  refine WO_end rfl ?_
                  refine X_then ?_
                  refine W_seq ?_
                  refine W_region ?_
                  refine WO_seg 2 [(162, .string p0), (163, .int .i64 p1)] (by kernel_rfl) (by kernel_rfl) ?_
                  replace hr := bindS hr
                  obtain ⟨x13, hx17, hr⟩ := hr
                  refine WO_one rfl (One_strIndex (d := 164) (t := 9) (x := (.tmp 162)) (y := (.tmp 163)) (by kernel_rfl) rfl (show evL _ _ = some (.string p0) from (by kernel_rfl)) (show evL _ _ = some (.int .i64 p1) from (by kernel_rfl)) (by kernel_rfl) hx17 ?_)
                  refine WO_seg 2 [(166, .bool ((x13.toNat : Int) == (x12.toNat : Int)))] (by kernel_rfl) (by kernel_rfl) ?_
                  refine WO_end rfl ?_
                  refine X_then ?_
                  refine W_cond ((x13.toNat : Int) == (x12.toNat : Int)) (by kernel_rfl) ?_ ?_
                  · intro hc
                    rw [if_pos hc] at hr
                    refine W_seq ?_
                    refine W_region ?_
                    refine WO_seg 4 [(167, .string p0), (168, .int .i64 p1), (170, .int .i64 (IntKind.wrap .i64 (p1 + 1)))] (by kernel_rfl) (by kernel_rfl) ?_
                    replace hr := bindS hr
                    obtain ⟨s7, hx18, hr⟩ := hr
                    refine WO_one rfl (One_strSlice (d := 171) (t := 9) (x := (.tmp 167)) (lo := (some (.tmp 168))) (hi := (some (.tmp 170))) (by kernel_rfl) rfl (show evL _ _ = some (.string p0) from (by kernel_rfl)) (by kernel_rfl) (.inr ⟨_, _, rfl, (show evL _ _ = some (.int .i64 p1) from (by kernel_rfl))⟩) (.inr ⟨_, _, rfl, (show evL _ _ = some (.int .i64 (IntKind.wrap .i64 (p1 + 1))) from (by kernel_rfl))⟩) hx18 ?_)
                    refine WO_seg 4 [(173, .agg #[.int .i64 4, .string s7, .int .i64 0, .int .i64 p1]), (175, .int .i64 (IntKind.wrap .i64 (p1 + 1)))] (by kernel_rfl) (by kernel_rfl) ?_
                    refine WO_one rfl (One_store (t := 42) (x := (.tmp 4)) (y := (.tmp 173)) (v := .agg #[.int .i64 4, .string s7, .int .i64 0, .int .i64 p1]) (c' := #[.int .i64 4, .string s7, .int .i64 0, .int .i64 p1]) (by kernel_rfl) (show evL _ _ = some (.pointer (some ⟨b1, 0, none⟩)) from (by kernel_rfl)) (show evL _ _ = some (.agg #[.int .i64 4, .string s7, .int .i64 0, .int .i64 p1]) from (by kernel_rfl)) st (by kernel_rfl) (by kernel_rfl) ?_)
                    clear st
                    intro w28 st
                    refine WO_seg 2 [(5, .int .i64 (IntKind.wrap .i64 (p1 + 1))), (6, .int .i64 0)] (by kernel_rfl) (by kernel_rfl) ?_
                    refine WO_end rfl ?_
                    refine X_then ?_
                    refine W_ret ?_
                    refine X_block_ret ?_
                    refine X_then_ret ?_
                    obtain rfl := Option.some.inj hr
                    have ho := hBu9 _ rfl
                    subst ho
                    have hr := hrKu9
                    dsimp only at hr
                    refine X_then_ret ?_
                    refine X_block_ret ?_
                    refine X_then_ret ?_
                    obtain rfl := Option.some.inj hr
                    refine X_ret [.cell 4 42, .tmp 5, .tmp 6] [.agg #[.int .i64 4, .string s7, .int .i64 0, .int .i64 p1], .int .i64 (IntKind.wrap .i64 (p1 + 1)), .int .i64 0] rfl (ResAll.cons (ResAt.blk (v := .agg #[.int .i64 4, .string s7, .int .i64 0, .int .i64 p1]) (o := 0) (by kernel_rfl) st.head (by kernel_rfl)) (ResAll.cons (ResAt.tmp (by kernel_rfl)) (ResAll.cons (ResAt.tmp (by kernel_rfl)) ResAll.nil))) ?_
                    have st := st.tail
                    exact ⟨m18, rfl, hm, st⟩
                  · intro hc
                    rw [if_neg (not_true hc)] at hr
                    refine W_skip ?_
                    refine X_block ?_
                    refine X_then ?_
                    refine W_region ?_
                    refine WO_seg 2 [(158, .int .i64 (IntKind.wrap .i64 (s6 + 1)))] (by kernel_rfl) (by kernel_rfl) ?_
                    refine WO_end rfl ?_
                    obtain rfl := Option.some.inj hr
                    have hL := hSu9 _ rfl
                    exact X_env _ (by kernel_rfl) (X_round k4 (Nat.lt_succ_self _) ⟨IntKind.wrap .i64 (s6 + 1), m18, hL, rfl, hm, st, r1⟩)
                · intro hc
                  rw [if_neg (not_true hc)] at hr
                  refine W_exit ?_
                  refine X_then_exit ?_
                  obtain rfl := Option.some.inj hr
                  have ho := hBu9 _ rfl
                  refine X_then_exit ?_
                  exact X_env _ (by kernel_rfl) (K7_u9 _ _ ⟨(), m18, ho, rfl, hm, st⟩)
          · intro K
            clear hrK
            refine WO_seg 2 [(133, .string p0), (134, .int .i64 p1)] (by kernel_rfl) (by kernel_rfl) ?_
            replace hr := bindS hr
            obtain ⟨x10, hx14, hr⟩ := hr
            refine WO_one rfl (One_strIndex (d := 135) (t := 9) (x := (.tmp 133)) (y := (.tmp 134)) (by kernel_rfl) rfl (show evL _ _ = some (.string p0) from (by kernel_rfl)) (show evL _ _ = some (.int .i64 p1) from (by kernel_rfl)) (by kernel_rfl) hx14 ?_)
            refine WO_seg 2 [(137, .bool ((x10.toNat : Int) == 61))] (by kernel_rfl) (by kernel_rfl) ?_
            rcases bcases ((x10.toNat : Int) == 61) with hc | hc
            · rw [if_pos hc] at hr
              refine WO_fact (t := 137) (b := true) ((x10.toNat : Int) == 61) (by kernel_rfl) hc ?_
              refine WO_seg 7 [(144, .bool (decide ((IntKind.wrap .i64 (p1 + 1)) < (ByteArray.size p0 : Int))))] (by kernel_rfl) (by kernel_rfl) ?_
              rcases bcases (decide ((IntKind.wrap .i64 (p1 + 1)) < (ByteArray.size p0 : Int))) with hc | hc
              · rw [if_pos hc] at hr
                refine WO_fact (t := 144) (b := true) (decide ((IntKind.wrap .i64 (p1 + 1)) < (ByteArray.size p0 : Int))) (by kernel_rfl) hc ?_
                refine WO_seg 3 [(145, .string p0), (147, .int .i64 (IntKind.wrap .i64 (p1 + 1)))] (by kernel_rfl) (by kernel_rfl) ?_
                replace hr := bindS hr
                obtain ⟨x11, hx15, hr⟩ := hr
                refine WO_one rfl (One_strIndex (d := 148) (t := 9) (x := (.tmp 145)) (y := (.tmp 147)) (by kernel_rfl) rfl (show evL _ _ = some (.string p0) from (by kernel_rfl)) (show evL _ _ = some (.int .i64 (IntKind.wrap .i64 (p1 + 1))) from (by kernel_rfl)) (by kernel_rfl) hx15 ?_)
                refine WO_seg 2 [(150, .bool ((x11.toNat : Int) == 61))] (by kernel_rfl) (by kernel_rfl) ?_
                obtain rfl := Option.some.inj hr
                exact WO_env _ (by kernel_rfl) (K _ _ ⟨m6, rfl, hm, st⟩)
              · rw [if_neg (not_true hc)] at hr
                refine WO_fact (t := 144) (b := false) (decide ((IntKind.wrap .i64 (p1 + 1)) < (ByteArray.size p0 : Int))) (by kernel_rfl) hc ?_
                refine WO_seg 6 [(150, .bool false)] (by kernel_rfl) (by kernel_rfl) ?_
                obtain rfl := Option.some.inj hr
                exact WO_env _ (by kernel_rfl) (K _ _ ⟨m6, rfl, hm, st⟩)
            · rw [if_neg (not_true hc)] at hr
              refine WO_fact (t := 137) (b := false) ((x10.toNat : Int) == 61) (by kernel_rfl) hc ?_
              refine WO_seg 13 [(150, .bool false)] (by kernel_rfl) (by kernel_rfl) ?_
              obtain rfl := Option.some.inj hr
              exact WO_env _ (by kernel_rfl) (K _ _ ⟨m6, rfl, hm, st⟩)
    · intro K
      clear hrK
      refine WO_seg 3 [(45, .bool (decide ((x1.toNat : Int) ≥ 48)))] (by kernel_rfl) (by kernel_rfl) ?_
      rcases bcases (decide ((x1.toNat : Int) ≥ 48)) with hc | hc
      · rw [if_pos hc] at hr
        refine WO_fact (t := 45) (b := true) (decide ((x1.toNat : Int) ≥ 48)) (by kernel_rfl) hc ?_
        refine WO_seg 4 [(42, .bool (decide ((x1.toNat : Int) ≤ 57)))] (by kernel_rfl) (by kernel_rfl) ?_
        obtain rfl := Option.some.inj hr
        exact WO_env _ (by kernel_rfl) (K _ _ ⟨m1, rfl, hm, st⟩)
      · rw [if_neg (not_true hc)] at hr
        refine WO_fact (t := 45) (b := false) (decide ((x1.toNat : Int) ≥ 48)) (by kernel_rfl) hc ?_
        refine WO_seg 4 [(42, .bool false)] (by kernel_rfl) (by kernel_rfl) ?_
        obtain rfl := Option.some.inj hr
        exact WO_env _ (by kernel_rfl) (K _ _ ⟨m1, rfl, hm, st⟩)

def testgateref04_Tokens_L1 (N : Nat) (p0 : ByteArray) (s1 : (List (Int × ByteArray × Int × Int)) × Int) : Option (((List (Int × ByteArray × Int × Int)) × Int) ⊕ (((List (Int × ByteArray × Int × Int))) ⊕ ((List (Int × ByteArray × Int × Int)) × Int × Int))) :=
  if (decide (s1.2 < (ByteArray.size p0 : Int))) = true then ((testgateref04_token N p0 s1.2).bind fun y2 => if (y2.2.2 != 0) = true then (some (.inr (.inr ((([] : List (Int × ByteArray × Int × Int)), s1.2, y2.2.2))))) else ((appendS 40 s1.1 ([(y2.1.1, y2.1.2.1, y2.1.2.2.1, y2.1.2.2.2)])).bind fun l1 => (testgateref04_skip N p0 y2.2.1).bind fun y3 => some (.inl (l1, y3)))) else (some (.inr (.inl s1.1)))

def testgateref04_Tokens (N : Nat) (p0 : ByteArray) : Option ((List (Int × ByteArray × Int × Int)) × Int × Int) :=
  if (decide ((ByteArray.size p0 : Int) > 16384)) = true then (some (([] : List (Int × ByteArray × Int × Int)), 0, 2)) else ((testgateref04_skip N p0 0).bind fun y1 => (loopM (testgateref04_Tokens_L1 N p0) N (([] : List (Int × ByteArray × Int × Int)), y1)).bind fun out1 => (match out1 with | .inl o1 => (appendS 40 o1 ([(5, (⟨#[]⟩ : ByteArray), 0, (ByteArray.size p0 : Int))])).bind fun l2 => some (l2, 0, 0) | .inr (z) => some z))

set_option maxHeartbeats 4000000 in
set_option maxRecDepth 100000 in
theorem testgateref04_Tokens_ok {N : Nat} {m : Mem} {own : List Piece} {w : World} {p0 : ByteArray} {r : (List (Int × ByteArray × Int × Int)) × Int × Int} (st : St m (own) w) (hr : testgateref04_Tokens N p0 = some r) : Calls Go.Proofs.Tryd.prog 48 #[.string p0] w fun e w' => ∃ (ra1 : Option Addr) (rc1 : Nat) (m' : Mem), e = .returned (.tuple #[.slice ra1 (List.length r.1) rc1, .int .i64 r.2.1, .int .i64 r.2.2]) ∧ m.le m' ∧ St m' (.room ra1 (List.length r.1) rc1 42 4 :: own) w' ∧ RepS (cPair (cInt .i64) (cPair cStr (cPair (cInt .i64) (cInt .i64)))) m' ra1 rc1 r.1 := by
  unfold testgateref04_Tokens at hr
  have hm := m.le_refl
  refine W_calls Go.Proofs.Tryd.func48 rfl Go.Proofs.Tryd.ntmps48 [(0, .string p0)] (by kernel_rfl) rfl ?_
  refine W_seq ?_
  refine W_region ?_
  refine WO_seg 3 [(2, .slice none (List.length ([] : List (Int × ByteArray × Int × Int))) 0)] (by kernel_rfl) (by kernel_rfl) ?_
  refine WO_end rfl ?_
  refine X_then ?_
  refine W_seq ?_
  refine W_seq ?_
  refine W_region ?_
  refine WO_seg 3 [(10, .bool (decide ((ByteArray.size p0 : Int) > 16384)))] (by kernel_rfl) (by kernel_rfl) ?_
  refine WO_end rfl ?_
  refine X_then ?_
  refine W_cond (decide ((ByteArray.size p0 : Int) > 16384)) (by kernel_rfl) ?_ ?_
  · intro hc
    rw [if_pos hc] at hr
    refine W_seq ?_
    refine W_region ?_
    refine WO_seg 3 [(2, .slice none (List.length ([] : List (Int × ByteArray × Int × Int))) 0), (3, .int .i64 0), (4, .int .i64 2)] (by kernel_rfl) (by kernel_rfl) ?_
    refine WO_end rfl ?_
    refine X_then ?_
    refine W_ret ?_
    refine X_then_ret ?_
    obtain rfl := Option.some.inj hr
    refine X_ret [.tmp 2, .tmp 3, .tmp 4] [.slice none (List.length ([] : List (Int × ByteArray × Int × Int))) 0, .int .i64 0, .int .i64 2] rfl (ResAll.cons (ResAt.tmp (by kernel_rfl)) (ResAll.cons (ResAt.tmp (by kernel_rfl)) (ResAll.cons (ResAt.tmp (by kernel_rfl)) ResAll.nil))) ?_
    have st := st.nilroom 42 4
    exact ⟨none, 0, m, rfl, hm, st, (RepS.nil _ _)⟩
  · intro hc
    rw [if_neg (not_true hc)] at hr
    refine W_skip ?_
    refine X_then ?_
    refine W_seq ?_
    refine W_region ?_
    refine WO_seg 1 [(11, .string p0)] (by kernel_rfl) (by kernel_rfl) ?_
    replace hr := bindS hr
    obtain ⟨y1, hx1, hr⟩ := hr
    refine WO_one rfl (One_fn 12 82 #[.string p0, .int .i64 0] (by kernel_rfl) rfl ?_)
    refine (testgateref04_skip_ok st hx1).mono ?_
    clear st
    rintro _ w1 ⟨m1, rfl, hle1, st⟩
    refine ⟨_, rfl, ?_⟩
    have hm := Mem.le_trans hm hle1
    refine WO_seg 1 [(3, .int .i64 y1)] (by kernel_rfl) (by kernel_rfl) ?_
    refine WO_end rfl ?_
    refine X_then ?_
    refine W_seq ?_
    refine W_block ?_
    replace hr := bindS hr
    obtain ⟨out1, hr, hrKu1⟩ := hr
    refine W_cut (.exit 0) (fun L' w' => ∃ (o1 : (List (Int × ByteArray × Int × Int))) (a1 : Option Addr) (c1 : Nat) (m2 : Mem), (.inl o1) = out1 ∧ L' = [(0, .string p0), (2, .slice a1 (List.length o1) c1)] ∧ m.le m2 ∧ St m2 (.room a1 (List.length o1) c1 42 4 :: own) w' ∧ RepS (cPair (cInt .i64) (cPair cStr (cPair (cInt .i64) (cInt .i64)))) m2 a1 c1 o1) ?_ ?_
    · clear hr st
      rintro _ w2 ⟨o1, a1, c1, m2, rfl, rfl, hm, st, r1⟩
      have hr := hrKu1
      clear hrKu1
      dsimp only at hr
      refine X_block_eq ?_
      refine X_then ?_
      refine W_seq ?_
      refine W_region ?_
      refine WO_seg 4 [(35, .slice a1 (List.length o1) c1), (38, .agg #[.int .i64 5, .string (⟨#[]⟩ : ByteArray), .int .i64 0, .int .i64 (ByteArray.size p0 : Int)])] (by kernel_rfl) (by kernel_rfl) ?_
      refine WO_one rfl (One_buildSlice (d := 39) (t := 37) (e := 42) (len := 1) (parts := #[(0, (.tmp 38))]) (cPair (cInt .i64) (cPair cStr (cPair (cInt .i64) (cInt .i64)))) (xs := [(5, (⟨#[]⟩ : ByteArray), 0, (ByteArray.size p0 : Int))]) [.int .i64 5, .string (⟨#[]⟩ : ByteArray), .int .i64 0, .int .i64 (ByteArray.size p0 : Int)] (by kernel_rfl) rfl (fun _ => buildCells_run (by kernel_rfl) _) rfl rfl st ⟨[.int .i64 5, .string (⟨#[]⟩ : ByteArray), .int .i64 0, .int .i64 (ByteArray.size p0 : Int)], _, rfl, ⟨_, _, rfl, rfl, ⟨_, _, rfl, rfl, ⟨_, _, rfl, rfl, rfl⟩⟩⟩, rfl⟩ ?_)
      clear st
      intro b3 m8 w10 hle6 st r5
      have hm := Mem.le_trans hm hle6
      have r1 := r1.mono hle6
      have st := st.front1
      replace hr := bindS hr
      obtain ⟨l2, hx5, hr⟩ := hr
      refine WO_one rfl (One_append (d := 40) (t := 37) (u := 37) (e := 42) (by_ := 40) (x := (.tmp 35)) (y := (.tmp 39)) (cPair (cInt .i64) (cPair cStr (cPair (cInt .i64) (cInt .i64)))) (by kernel_rfl) rfl (show evL _ _ = some (.slice a1 (List.length o1) c1) from (by kernel_rfl)) (show evL _ _ = some (.slice (some ⟨b3, 0, none⟩) (List.length ([(5, (⟨#[]⟩ : ByteArray), 0, (ByteArray.size p0 : Int))])) 1) from (by kernel_rfl)) st (by kernel_rfl) (.inl (by kernel_rfl)) r1 r5.src hx5 ?_)
      clear st
      intro a4 c4 m9 w11 hle7 st r6
      have hm := Mem.le_trans hm hle7
      have r1 := r1.mono hle7
      have r5 := r5.mono hle7
      refine WO_seg 3 [(2, .slice a4 (List.length l2) c4), (3, .int .i64 0), (4, .int .i64 0)] (by kernel_rfl) (by kernel_rfl) ?_
      refine WO_end rfl ?_
      have st := st.front1
      have st := st.tail
      refine X_then ?_
      refine W_ret ?_
      obtain rfl := Option.some.inj hr
      refine X_ret [.tmp 2, .tmp 3, .tmp 4] [.slice a4 (List.length l2) c4, .int .i64 0, .int .i64 0] rfl (ResAll.cons (ResAt.tmp (by kernel_rfl)) (ResAll.cons (ResAt.tmp (by kernel_rfl)) (ResAll.cons (ResAt.tmp (by kernel_rfl)) ResAll.nil))) ?_
      exact ⟨a4, c4, m9, rfl, hm, st, r6⟩
    intro K0_u1
    have st := st.nilroom 42 4
    refine W_env _ (by kernel_rfl) (W_loop (fun k1 L' w' => ∃ (s1 : (List (Int × ByteArray × Int × Int)) × Int) (a2 : Option Addr) (c2 : Nat) (m3 : Mem), loopM (testgateref04_Tokens_L1 N p0) k1 s1 = some out1 ∧ L' = [(0, .string p0), (2, .slice a2 (List.length s1.1) c2), (3, .int .i64 s1.2)] ∧ m.le m3 ∧ St m3 (.room a2 (List.length s1.1) c2 42 4 :: own) w' ∧ RepS (cPair (cInt .i64) (cPair cStr (cPair (cInt .i64) (cInt .i64)))) m3 a2 c2 s1.1) N ⟨(([] : List (Int × ByteArray × Int × Int)), y1), none, 0, m1, hr, rfl, hm, st, (RepS.nil _ _)⟩ ?_)
    clear st hr
    rintro k1 _ w3 ⟨s1, a2, c2, m3, hL, rfl, hm, st, r2⟩
    rcases k1 with _ | k1
    · exact loopM_zero hL
    · obtain ⟨qu1, hr, hSu1, hBu1⟩ := loopM_succ hL
      clear hL
      unfold testgateref04_Tokens_L1 at hr
      refine W_seq ?_
      refine W_seq ?_
      refine W_region ?_
      refine WO_seg 4 [(16, .bool (decide (s1.2 < (ByteArray.size p0 : Int))))] (by kernel_rfl) (by kernel_rfl) ?_
      refine WO_end rfl ?_
      refine X_then ?_
      refine W_cond (decide (s1.2 < (ByteArray.size p0 : Int))) (by kernel_rfl) ?_ ?_
      · intro hc
        rw [if_pos hc] at hr
        refine W_skip ?_
        refine X_then ?_
        refine W_block ?_
        refine W_seq ?_
        refine W_region ?_
        refine WO_seg 2 [(18, .string p0), (19, .int .i64 s1.2)] (by kernel_rfl) (by kernel_rfl) ?_
        replace hr := bindS hr
        obtain ⟨y2, hx2, hr⟩ := hr
        refine WO_one rfl (One_fn 20 83 #[.string p0, .int .i64 s1.2] (by kernel_rfl) rfl ?_)
        refine (testgateref04_token_ok st hx2).mono ?_
        clear st
        rintro _ w4 ⟨m4, rfl, hle2, st⟩
        refine ⟨_, rfl, ?_⟩
        have hm := Mem.le_trans hm hle2
        have r2 := r2.mono hle2
        refine WO_seg 4 [(21, .agg #[.int .i64 y2.1.1, .string y2.1.2.1, .int .i64 y2.1.2.2.1, .int .i64 y2.1.2.2.2]), (22, .int .i64 y2.2.1), (23, .int .i64 y2.2.2)] (by kernel_rfl) (by kernel_rfl) ?_
        refine WO_one rfl (One_alloc (d := 5) (e := 42) (.agg #[.int .i64 0, .string (⟨#[]⟩ : ByteArray), .int .i64 0, .int .i64 0]) (by kernel_rfl) rfl (by kernel_rfl) st ?_)
        clear st
        intro b1 w5 st
        refine WO_one rfl (One_store (t := 42) (x := (.tmp 5)) (y := (.tmp 21)) (v := .agg #[.int .i64 y2.1.1, .string y2.1.2.1, .int .i64 y2.1.2.2.1, .int .i64 y2.1.2.2.2]) (c' := #[.int .i64 y2.1.1, .string y2.1.2.1, .int .i64 y2.1.2.2.1, .int .i64 y2.1.2.2.2]) (by kernel_rfl) (show evL _ _ = some (.pointer (some ⟨b1, 0, none⟩)) from (by kernel_rfl)) (show evL _ _ = some (.agg #[.int .i64 y2.1.1, .string y2.1.2.1, .int .i64 y2.1.2.2.1, .int .i64 y2.1.2.2.2]) from (by kernel_rfl)) st (by kernel_rfl) (by kernel_rfl) ?_)
        clear st
        intro w6 st
        refine WO_seg 2 [(6, .int .i64 y2.2.1), (7, .int .i64 y2.2.2)] (by kernel_rfl) (by kernel_rfl) ?_
        refine WO_end rfl ?_
        refine X_then ?_
        refine W_seq ?_
        refine W_seq ?_
        refine W_region ?_
        refine WO_seg 2 [(25, .bool (y2.2.2 != 0))] (by kernel_rfl) (by kernel_rfl) ?_
        refine WO_end rfl ?_
        refine X_then ?_
        refine W_cond (y2.2.2 != 0) (by kernel_rfl) ?_ ?_
        · intro hc
          rw [if_pos hc] at hr
          refine W_seq ?_
          refine W_region ?_
          refine WO_seg 5 [(2, .slice none (List.length ([] : List (Int × ByteArray × Int × Int))) 0), (3, .int .i64 s1.2), (4, .int .i64 y2.2.2)] (by kernel_rfl) (by kernel_rfl) ?_
          refine WO_end rfl ?_
          have st := st.front1
          have st := st.tail
          refine X_then ?_
          refine W_ret ?_
          refine X_then_ret ?_
          refine X_block_ret ?_
          obtain rfl := Option.some.inj hr
          have ho := hBu1 _ rfl
          subst ho
          have hr := hrKu1
          dsimp only at hr
          refine X_then_ret ?_
          refine X_block_ret ?_
          refine X_then_ret ?_
          obtain rfl := Option.some.inj hr
          refine X_ret [.tmp 2, .tmp 3, .tmp 4] [.slice none (List.length ([] : List (Int × ByteArray × Int × Int))) 0, .int .i64 s1.2, .int .i64 y2.2.2] rfl (ResAll.cons (ResAt.tmp (by kernel_rfl)) (ResAll.cons (ResAt.tmp (by kernel_rfl)) (ResAll.cons (ResAt.tmp (by kernel_rfl)) ResAll.nil))) ?_
          have st := st.nilroom 42 4
          have st := st.front1
          have st := st.tail
          exact ⟨none, 0, m4, rfl, hm, st, (RepS.nil _ _)⟩
        · intro hc
          rw [if_neg (not_true hc)] at hr
          refine W_skip ?_
          refine X_then ?_
          refine W_seq ?_
          refine W_region ?_
          refine WO_seg 1 [(28, .slice a2 (List.length s1.1) c2)] (by kernel_rfl) (by kernel_rfl) ?_
          refine WO_one rfl (One_load_own (d := 29) (t := 42) (x := (.tmp 5)) (.agg #[.int .i64 y2.1.1, .string y2.1.2.1, .int .i64 y2.1.2.2.1, .int .i64 y2.1.2.2.2]) (by kernel_rfl) rfl (show evL _ _ = some (.pointer (some ⟨b1, 0, none⟩)) from (by kernel_rfl)) st.head (by kernel_rfl) ?_)
          refine WO_one rfl (One_buildSlice (d := 30) (t := 37) (e := 42) (len := 1) (parts := #[(0, (.tmp 29))]) (cPair (cInt .i64) (cPair cStr (cPair (cInt .i64) (cInt .i64)))) (xs := [(y2.1.1, y2.1.2.1, y2.1.2.2.1, y2.1.2.2.2)]) [.int .i64 y2.1.1, .string y2.1.2.1, .int .i64 y2.1.2.2.1, .int .i64 y2.1.2.2.2] (by kernel_rfl) rfl (fun _ => buildCells_run (by kernel_rfl) _) rfl rfl st ⟨[.int .i64 y2.1.1, .string y2.1.2.1, .int .i64 y2.1.2.2.1, .int .i64 y2.1.2.2.2], _, rfl, ⟨_, _, rfl, rfl, ⟨_, _, rfl, rfl, ⟨_, _, rfl, rfl, rfl⟩⟩⟩, rfl⟩ ?_)
          clear st
          intro b2 m5 w7 hle3 st r3
          have hm := Mem.le_trans hm hle3
          have r2 := r2.mono hle3
          have st := st.front2
          replace hr := bindS hr
          obtain ⟨l1, hx3, hr⟩ := hr
          refine WO_one rfl (One_append (d := 31) (t := 37) (u := 37) (e := 42) (by_ := 40) (x := (.tmp 28)) (y := (.tmp 30)) (cPair (cInt .i64) (cPair cStr (cPair (cInt .i64) (cInt .i64)))) (by kernel_rfl) rfl (show evL _ _ = some (.slice a2 (List.length s1.1) c2) from (by kernel_rfl)) (show evL _ _ = some (.slice (some ⟨b2, 0, none⟩) (List.length ([(y2.1.1, y2.1.2.1, y2.1.2.2.1, y2.1.2.2.2)])) 1) from (by kernel_rfl)) st (by kernel_rfl) (.inl (by kernel_rfl)) r2 r3.src hx3 ?_)
          clear st
          intro a3 c3 m6 w8 hle4 st r4
          have hm := Mem.le_trans hm hle4
          have r2 := r2.mono hle4
          have r3 := r3.mono hle4
          refine WO_seg 1 [(2, .slice a3 (List.length l1) c3)] (by kernel_rfl) (by kernel_rfl) ?_
          refine WO_end rfl ?_
          have st := st.front1
          have st := st.tail
          refine X_then ?_
          refine W_region ?_
          refine WO_seg 2 [(32, .string p0), (33, .int .i64 y2.2.1)] (by kernel_rfl) (by kernel_rfl) ?_
          replace hr := bindS hr
          obtain ⟨y3, hx4, hr⟩ := hr
          refine WO_one rfl (One_fn 34 82 #[.string p0, .int .i64 y2.2.1] (by kernel_rfl) rfl ?_)
          refine (testgateref04_skip_ok st hx4).mono ?_
          clear st
          rintro _ w9 ⟨m7, rfl, hle5, st⟩
          refine ⟨_, rfl, ?_⟩
          have hm := Mem.le_trans hm hle5
          have r4 := r4.mono hle5
          refine WO_seg 1 [(3, .int .i64 y3)] (by kernel_rfl) (by kernel_rfl) ?_
          refine WO_end rfl ?_
          refine X_block ?_
          obtain rfl := Option.some.inj hr
          have hL := hSu1 _ rfl
          have st := st.front1
          have st := st.tail
          exact X_env _ (by kernel_rfl) (X_round k1 (Nat.lt_succ_self _) ⟨(l1, y3), a3, c3, m7, hL, rfl, hm, st, r4⟩)
      · intro hc
        rw [if_neg (not_true hc)] at hr
        refine W_exit ?_
        refine X_then_exit ?_
        obtain rfl := Option.some.inj hr
        have ho := hBu1 _ rfl
        refine X_then_exit ?_
        exact X_env _ (by kernel_rfl) (K0_u1 _ _ ⟨s1.1, a2, c2, m3, ho, rfl, hm, st, r2⟩)

def testgatelaw04_same_L1 (N : Nat) (y1 : (List (Int × ByteArray × Int × Int)) × Int × Int) (y2 : (List (Int × ByteArray × Int × Int)) × Int × Int) (s1 : Int) : Option ((Int) ⊕ ((Unit) ⊕ (Bool))) :=
  if (decide (s1 < (List.length y1.1 : Int))) = true then ((idx y1.1 s1).bind fun x1 => (idx y2.1 s1).bind fun x2 => if (!((x1.1 == x2.1) && ((x1.2.1.toList == x2.2.1.toList) && ((x1.2.2.1 == x2.2.2.1) && ((x1.2.2.2 == x2.2.2.2) && true))))) = true then (some (.inr (.inr (false)))) else (some (.inl (IntKind.wrap .i64 (s1 + 1))))) else (some (.inr (.inl ())))

def testgatelaw04_same (N : Nat) (p0 : ByteArray) : Option (Bool) :=
  (lexer_Tokens N p0).bind fun y1 => (testgateref04_Tokens N p0).bind fun y2 => (if (y1.2.1 != y2.2.1) = true then (some true) else (if (y1.2.2 != y2.2.2) = true then (some true) else (some ((List.length y1.1 : Int) != (List.length y2.1 : Int)))) : Option (Bool)).bind fun o1 => if o1 = true then (some false) else ((loopM (testgatelaw04_same_L1 N y1 y2) N 0).bind fun out1 => (match out1 with | .inl o2 => some true | .inr (z) => some z))

set_option maxHeartbeats 4000000 in
set_option maxRecDepth 100000 in
theorem testgatelaw04_same_ok {N : Nat} {m : Mem} {own : List Piece} {w : World} {p0 : ByteArray} {r : Bool} (st : St m (own) w) (hr : testgatelaw04_same N p0 = some r) : Calls Go.Proofs.Tryd.prog 14 #[.string p0] w fun e w' => ∃ (m' : Mem), e = .returned (.bool r) ∧ m.le m' ∧ St m' (own) w' := by
  unfold testgatelaw04_same at hr
  have hm := m.le_refl
  refine W_calls Go.Proofs.Tryd.func14 rfl Go.Proofs.Tryd.ntmps14 [(0, .string p0)] (by kernel_rfl) rfl ?_
  refine W_seq ?_
  refine W_region ?_
  refine WO_seg 1 [] (by kernel_rfl) (by kernel_rfl) ?_
  refine WO_end rfl ?_
  refine X_then ?_
  refine W_seq ?_
  refine W_region ?_
  refine WO_seg 1 [(11, .string p0)] (by kernel_rfl) (by kernel_rfl) ?_
  replace hr := bindS hr
  obtain ⟨y1, hx1, hr⟩ := hr
  refine WO_one rfl (One_fn 12 24 #[.string p0] (by kernel_rfl) rfl ?_)
  refine (lexer_Tokens_ok st hx1).mono ?_
  clear st
  rintro _ w1 ⟨a1, c1, m1, rfl, hle1, st, r1⟩
  refine ⟨_, rfl, ?_⟩
  have hm := Mem.le_trans hm hle1
  refine WO_seg 7 [(3, .slice a1 (List.length y1.1) c1), (4, .int .i64 y1.2.1), (5, .int .i64 y1.2.2)] (by kernel_rfl) (by kernel_rfl) ?_
  refine WO_end rfl ?_
  refine X_then ?_
  refine W_seq ?_
  refine W_region ?_
  refine WO_seg 1 [(17, .string p0)] (by kernel_rfl) (by kernel_rfl) ?_
  replace hr := bindS hr
  obtain ⟨y2, hx2, hr⟩ := hr
  refine WO_one rfl (One_fn 18 48 #[.string p0] (by kernel_rfl) rfl ?_)
  refine (testgateref04_Tokens_ok st hx2).mono ?_
  clear st
  rintro _ w2 ⟨a2, c2, m2, rfl, hle2, st, r2⟩
  refine ⟨_, rfl, ?_⟩
  have hm := Mem.le_trans hm hle2
  have r1 := r1.mono hle2
  refine WO_seg 7 [(6, .slice a2 (List.length y2.1) c2), (7, .int .i64 y2.2.1), (8, .int .i64 y2.2.2)] (by kernel_rfl) (by kernel_rfl) ?_
  refine WO_end rfl ?_
  refine X_then ?_
  refine W_seq ?_
  refine W_seq ?_
  refine W_region ?_
  replace hr := bindS hr
  obtain ⟨o1, hr, hrK⟩ := hr
  refine WO_cut (j := 15) (fun L' w' => ∃ (m3 : Mem), L' = [(3, .slice a1 (List.length y1.1) c1), (6, .slice a2 (List.length y2.1) c2), (36, .bool o1)] ∧ m.le m3 ∧ St m3 (.room a2 (List.length y2.1) c2 42 4 :: .room a1 (List.length y1.1) c1 42 4 :: own) w' ∧ RepS (cPair (cInt .i64) (cPair cStr (cPair (cInt .i64) (cInt .i64)))) m3 a1 c1 y1.1 ∧ RepS (cPair (cInt .i64) (cPair cStr (cPair (cInt .i64) (cInt .i64)))) m3 a2 c2 y2.1) ?_ ?_
  · clear hr st
    have hr := hrK
    clear hrK
    rintro _ w3 ⟨m3, rfl, hm, st, r1, r2⟩
    refine WO_end rfl ?_
    refine X_then ?_
    refine W_cond o1 (by kernel_rfl) ?_ ?_
    · intro hc
      rw [if_pos hc] at hr
      refine W_seq ?_
      refine W_region ?_
      refine WO_seg 1 [(2, .bool false)] (by kernel_rfl) (by kernel_rfl) ?_
      refine WO_end rfl ?_
      have st := st.tail
      have st := st.tail
      refine X_then ?_
      refine W_ret ?_
      refine X_then_ret ?_
      obtain rfl := Option.some.inj hr
      refine X_ret [.tmp 2] [.bool false] rfl (ResAll.cons (ResAt.tmp (by kernel_rfl)) ResAll.nil) ?_
      exact ⟨m3, rfl, hm, st⟩
    · intro hc
      rw [if_neg (not_true hc)] at hr
      refine W_skip ?_
      refine X_then ?_
      refine W_seq ?_
      refine W_seq ?_
      refine W_region ?_
      refine WO_seg 3 [(38, .int .i64 (List.length y1.1 : Int)), (39, .int .i64 0)] (by kernel_rfl) (by kernel_rfl) ?_
      refine WO_end rfl ?_
      refine X_then ?_
      refine W_block ?_
      replace hr := bindS hr
      obtain ⟨out1, hr, hrKu1⟩ := hr
      refine W_cut (.exit 0) (fun L' w' => ∃ (o2 : Unit) (m4 : Mem), (.inl o2) = out1 ∧ L' = [] ∧ m.le m4 ∧ St m4 (.room a2 (List.length y2.1) c2 42 4 :: .room a1 (List.length y1.1) c1 42 4 :: own) w') ?_ ?_
      · clear hr st
        rintro _ w4 ⟨o2, m4, rfl, rfl, hm, st⟩
        have hr := hrKu1
        clear hrKu1
        dsimp only at hr
        refine X_block_eq ?_
        refine X_then ?_
        refine W_seq ?_
        refine W_region ?_
        refine WO_seg 1 [(2, .bool true)] (by kernel_rfl) (by kernel_rfl) ?_
        refine WO_end rfl ?_
        have st := st.tail
        have st := st.tail
        refine X_then ?_
        refine W_ret ?_
        obtain rfl := Option.some.inj hr
        refine X_ret [.tmp 2] [.bool true] rfl (ResAll.cons (ResAt.tmp (by kernel_rfl)) ResAll.nil) ?_
        exact ⟨m4, rfl, hm, st⟩
      intro K0_u1
      have st := st.front1
      have st := st.front1
      refine W_env _ (by kernel_rfl) (W_loop (fun k1 L' w' => ∃ (s1 : Int) (m5 : Mem), loopM (testgatelaw04_same_L1 N y1 y2) k1 s1 = some out1 ∧ L' = [(3, .slice a1 (List.length y1.1) c1), (6, .slice a2 (List.length y2.1) c2), (38, .int .i64 (List.length y1.1 : Int)), (39, .int .i64 s1)] ∧ m.le m5 ∧ St m5 (.room a2 (List.length y2.1) c2 42 4 :: .room a1 (List.length y1.1) c1 42 4 :: own) w' ∧ RepS (cPair (cInt .i64) (cPair cStr (cPair (cInt .i64) (cInt .i64)))) m5 a1 c1 y1.1 ∧ RepS (cPair (cInt .i64) (cPair cStr (cPair (cInt .i64) (cInt .i64)))) m5 a2 c2 y2.1) N ⟨0, m3, hr, rfl, hm, st, r1, r2⟩ ?_)
      clear st hr
      rintro k1 _ w5 ⟨s1, m5, hL, rfl, hm, st, r1, r2⟩
      rcases k1 with _ | k1
      · exact loopM_zero hL
      · obtain ⟨qu1, hr, hSu1, hBu1⟩ := loopM_succ hL
        clear hL
        unfold testgatelaw04_same_L1 at hr
        refine W_seq ?_
        refine W_region ?_
        refine WO_seg 1 [(40, .bool (decide (s1 < (List.length y1.1 : Int))))] (by kernel_rfl) (by kernel_rfl) ?_
        refine WO_end rfl ?_
        refine X_then ?_
        refine W_seq ?_
        refine W_cond (decide (s1 < (List.length y1.1 : Int))) (by kernel_rfl) ?_ ?_
        · intro hc
          rw [if_pos hc] at hr
          refine W_skip ?_
          refine X_then ?_
          refine W_seq ?_
          refine W_block ?_
          refine W_seq ?_
          refine W_region ?_
          refine WO_seg 2 [(9, .int .i64 s1)] (by kernel_rfl) (by kernel_rfl) ?_
          refine WO_end rfl ?_
          refine X_then ?_
          refine W_seq ?_
          refine W_draw [(9, fun w' => Inv m5 w' ∧ True)] (by kernel_rfl) st ?_
          clear st
          intro w6 _ st
          have hmS1 := m5.le_refl
          refine ⟨⟨.inr ⟨Inv.anti st.inv hmS1, trivial⟩, trivial⟩, ?_⟩
          refine WA_pure 0 42 (.slice a1 (List.length y1.1) c1) (by kernel_rfl) rfl (by kernel_rfl) (.head _) (QP_then (QP_block (QP_then (QP_then (QP_block (QP_then QP_body)))))) ?_
          refine WA_pure 1 43 (.int .i64 s1) (by kernel_rfl) rfl (by kernel_rfl) (.head _) (QP_then (QP_block (QP_then (QP_then (QP_block (QP_then QP_body)))))) ?_
          replace hr := bindS hr
          obtain ⟨x1, hx3, hr⟩ := hr
          refine WA_index (t := 37) (e := 42) (x := (.tmp 42)) (y := (.tmp 43)) 2 44 (cPair (cInt .i64) (cPair cStr (cPair (cInt .i64) (cInt .i64)))) (by kernel_rfl) rfl (by kernel_rfl) (.head _) (QP_then (QP_block (QP_then (QP_then (QP_block (QP_then QP_body)))))) (show evL _ _ = some (.slice a1 (List.length y1.1) c1) from (by kernel_rfl)) (show evL _ _ = some (.int .i64 s1) from (by kernel_rfl)) (by kernel_rfl) r1 hx3 ?_
          rintro b1 f1 cs1 ⟨_, _, rfl, rfl, ⟨_, _, rfl, rfl, ⟨_, _, rfl, rfl, rfl⟩⟩⟩ hq1
          refine WA_load_row (t := 42) (x := (.tmp 44)) 3 45 (.agg #[.int .i64 x1.1, .string x1.2.1, .int .i64 x1.2.2.1, .int .i64 x1.2.2.2]) (by kernel_rfl) rfl (by kernel_rfl) (.head _) (QP_then (QP_block (QP_then (QP_then (QP_block (QP_then QP_body)))))) (fun _ h => h.1) (show evL _ _ = some (.pointer (some ⟨b1, f1, none⟩)) from (by kernel_rfl)) hq1 (by kernel_rfl) ?_
          refine WA_pure 4 46 (.slice a2 (List.length y2.1) c2) (by kernel_rfl) rfl (by kernel_rfl) (.head _) (QP_then (QP_block (QP_then (QP_then (QP_block (QP_then QP_body)))))) ?_
          refine WA_pure 5 47 (.int .i64 s1) (by kernel_rfl) rfl (by kernel_rfl) (.head _) (QP_then (QP_block (QP_then (QP_then (QP_block (QP_then QP_body)))))) ?_
          replace hr := bindS hr
          obtain ⟨x2, hx4, hr⟩ := hr
          refine WA_index (t := 37) (e := 42) (x := (.tmp 46)) (y := (.tmp 47)) 6 48 (cPair (cInt .i64) (cPair cStr (cPair (cInt .i64) (cInt .i64)))) (by kernel_rfl) rfl (by kernel_rfl) (.head _) (QP_then (QP_block (QP_then (QP_then (QP_block (QP_then QP_body)))))) (show evL _ _ = some (.slice a2 (List.length y2.1) c2) from (by kernel_rfl)) (show evL _ _ = some (.int .i64 s1) from (by kernel_rfl)) (by kernel_rfl) r2 hx4 ?_
          rintro b2 f2 cs2 ⟨_, _, rfl, rfl, ⟨_, _, rfl, rfl, ⟨_, _, rfl, rfl, rfl⟩⟩⟩ hq2
          refine WA_load_row (t := 42) (x := (.tmp 48)) 7 49 (.agg #[.int .i64 x2.1, .string x2.2.1, .int .i64 x2.2.2.1, .int .i64 x2.2.2.2]) (by kernel_rfl) rfl (by kernel_rfl) (.head _) (QP_then (QP_block (QP_then (QP_then (QP_block (QP_then QP_body)))))) (fun _ h => h.1) (show evL _ _ = some (.pointer (some ⟨b2, f2, none⟩)) from (by kernel_rfl)) hq2 (by kernel_rfl) ?_
          refine WA_one 8 (by kernel_rfl)  (One_neAgg (d := 50) (t := 42) (t2 := 42) (x := (.tmp 45)) (y := (.tmp 49)) (xs := #[.int .i64 x1.1, .string x1.2.1, .int .i64 x1.2.2.1, .int .i64 x1.2.2.2]) (ys := #[.int .i64 x2.1, .string x2.2.1, .int .i64 x2.2.2.1, .int .i64 x2.2.2.2]) ((x1.1 == x2.1) && ((x1.2.1.toList == x2.2.1.toList) && ((x1.2.2.1 == x2.2.2.1) && ((x1.2.2.2 == x2.2.2.2) && true)))) (by kernel_rfl) rfl (show evL _ _ = some (.agg #[.int .i64 x1.1, .string x1.2.1, .int .i64 x1.2.2.1, .int .i64 x1.2.2.2]) from (by kernel_rfl)) (show evL _ _ = some (.agg #[.int .i64 x2.1, .string x2.2.1, .int .i64 x2.2.2.1, .int .i64 x2.2.2.2]) from (by kernel_rfl)) (by kernel_rfl) (by kernel_rfl) (by kernel_rfl) ?_)
          refine ⟨⟨.inr ⟨Inv.anti st.inv hmS1, trivial⟩, trivial⟩, ?_⟩
          refine WA_done (by kernel_rfl) ?_
          refine X_then ?_
          refine W_cond (!((x1.1 == x2.1) && ((x1.2.1.toList == x2.2.1.toList) && ((x1.2.2.1 == x2.2.2.1) && ((x1.2.2.2 == x2.2.2.2) && true))))) (by kernel_rfl) ?_ ?_
          · intro hc
            rw [if_pos hc] at hr
            refine W_seq ?_
            refine W_region ?_
            refine WO_seg 1 [(2, .bool false)] (by kernel_rfl) (by kernel_rfl) ?_
            refine WO_end rfl ?_
            have st := st.tail
            have st := st.tail
            refine X_then ?_
            refine W_ret ?_
            refine X_block_ret ?_
            refine X_then_ret ?_
            obtain rfl := Option.some.inj hr
            have ho := hBu1 _ rfl
            subst ho
            have hr := hrKu1
            dsimp only at hr
            refine X_then_ret ?_
            refine X_block_ret ?_
            refine X_then_ret ?_
            obtain rfl := Option.some.inj hr
            refine X_ret [.tmp 2] [.bool false] rfl (ResAll.cons (ResAt.tmp (by kernel_rfl)) ResAll.nil) ?_
            exact ⟨m5, rfl, hm, st⟩
          · intro hc
            rw [if_neg (not_true hc)] at hr
            refine W_skip ?_
            refine X_block ?_
            refine X_then ?_
            refine W_region ?_
            refine WO_seg 2 [(39, .int .i64 (IntKind.wrap .i64 (s1 + 1)))] (by kernel_rfl) (by kernel_rfl) ?_
            refine WO_end rfl ?_
            obtain rfl := Option.some.inj hr
            have hL := hSu1 _ rfl
            have st := st.front1
            have st := st.front1
            exact X_env _ (by kernel_rfl) (X_round k1 (Nat.lt_succ_self _) ⟨IntKind.wrap .i64 (s1 + 1), m5, hL, rfl, hm, st, r1, r2⟩)
        · intro hc
          rw [if_neg (not_true hc)] at hr
          refine W_exit ?_
          refine X_then_exit ?_
          obtain rfl := Option.some.inj hr
          have ho := hBu1 _ rfl
          have st := st.front1
          have st := st.front1
          refine X_then_exit ?_
          exact X_env _ (by kernel_rfl) (K0_u1 _ _ ⟨(), m5, ho, rfl, hm, st⟩)
  · intro K
    clear hrK
    refine WO_seg 4 [(25, .bool (y1.2.1 != y2.2.1))] (by kernel_rfl) (by kernel_rfl) ?_
    rcases bcases (y1.2.1 != y2.2.1) with hc | hc
    · rw [if_pos hc] at hr
      refine WO_fact (t := 25) (b := true) (y1.2.1 != y2.2.1) (by kernel_rfl) hc ?_
      refine WO_seg 11 [(36, .bool true)] (by kernel_rfl) (by kernel_rfl) ?_
      obtain rfl := Option.some.inj hr
      have st := st.front1
      have st := st.front1
      exact WO_env _ (by kernel_rfl) (K _ _ ⟨m2, rfl, hm, st, r1, r2⟩)
    · rw [if_neg (not_true hc)] at hr
      refine WO_fact (t := 25) (b := false) (y1.2.1 != y2.2.1) (by kernel_rfl) hc ?_
      refine WO_seg 5 [(30, .bool (y1.2.2 != y2.2.2))] (by kernel_rfl) (by kernel_rfl) ?_
      rcases bcases (y1.2.2 != y2.2.2) with hc | hc
      · rw [if_pos hc] at hr
        refine WO_fact (t := 30) (b := true) (y1.2.2 != y2.2.2) (by kernel_rfl) hc ?_
        refine WO_seg 6 [(36, .bool true)] (by kernel_rfl) (by kernel_rfl) ?_
        obtain rfl := Option.some.inj hr
        have st := st.front1
        have st := st.front1
        exact WO_env _ (by kernel_rfl) (K _ _ ⟨m2, rfl, hm, st, r1, r2⟩)
      · rw [if_neg (not_true hc)] at hr
        refine WO_fact (t := 30) (b := false) (y1.2.2 != y2.2.2) (by kernel_rfl) hc ?_
        refine WO_seg 6 [(36, .bool ((List.length y1.1 : Int) != (List.length y2.1 : Int)))] (by kernel_rfl) (by kernel_rfl) ?_
        obtain rfl := Option.some.inj hr
        have st := st.front1
        have st := st.front1
        exact WO_env _ (by kernel_rfl) (K _ _ ⟨m2, rfl, hm, st, r1, r2⟩)

def testgatelaw04_LexerWords_L1 (N : Nat) (y1 : (List Int × Int) × List ByteArray) (s1 : ByteArray × Int × List (Int) × Int) : Option ((ByteArray × Int × List (Int) × Int) ⊕ ((ByteArray × List (Int) × Int))) :=
  if (decide (s1.2.1 < (List.length y1.2 : Int))) = true then ((idx y1.2 s1.2.1).bind fun x1 => (testgatemake_Tape_One N (s1.2.2.1, s1.2.2.2) ([(⟨#[]⟩ : ByteArray), (⟨#[32]⟩ : ByteArray), (⟨#[32, 32]⟩ : ByteArray), (⟨#[10]⟩ : ByteArray), (⟨#[9, 13]⟩ : ByteArray), (⟨#[35, 32, 99, 10]⟩ : ByteArray), (⟨#[35]⟩ : ByteArray), (⟨#[11]⟩ : ByteArray)])).bind fun y2 => (catB y2.2 x1).bind fun s2 => (catB s1.1 s2).bind fun s3 => some (.inl (s3, IntKind.wrap .i64 (s1.2.1 + 1), y2.1.1, y2.1.2))) else (some (.inr (s1.1, s1.2.2.1, s1.2.2.2)))

def testgatelaw04_LexerWords (N : Nat) (p0 : List Int) : Option (Bool) :=
  (testgatelaw04_words N (p0, 0)).bind fun y1 => (loopM (testgatelaw04_LexerWords_L1 N y1) N ((⟨#[]⟩ : ByteArray), 0, y1.1.1, y1.1.2)).bind fun o1 => ((testgatelaw04_same N o1.1).bind fun y3 => if y3 = true then ((testgatelaw04_awake N).bind fun y4 => some y4) else (some false) : Option (Bool)).bind fun o2 => some o2

set_option maxHeartbeats 4000000 in
set_option maxRecDepth 100000 in
theorem testgatelaw04_LexerWords_ok {N : Nat} {m : Mem} {own : List Piece} {w : World} {p0 : List Int} {a1 : Option Addr} {c1 : Nat} {r : Bool} (st : St m (own) w) (r1 : RepS (cInt .i64) m a1 c1 p0) (hr : testgatelaw04_LexerWords N p0 = some r) : Calls Go.Proofs.Tryd.prog 4 #[.slice a1 (List.length p0) c1] w fun e w' => ∃ (m' : Mem), e = .returned (.bool r) ∧ m.le m' ∧ St m' (own) w' := by
  unfold testgatelaw04_LexerWords at hr
  have hm := m.le_refl
  refine W_calls Go.Proofs.Tryd.func4 rfl Go.Proofs.Tryd.ntmps4 [(0, .slice a1 (List.length p0) c1)] (by kernel_rfl) rfl ?_
  refine W_seq ?_
  refine W_region ?_
  refine WO_seg 1 [] (by kernel_rfl) (by kernel_rfl) ?_
  refine WO_end rfl ?_
  refine X_then ?_
  refine W_seq ?_
  refine W_region ?_
  refine WO_seg 2 [(8, .agg #[.slice a1 (List.length p0) c1, .int .i64 0])] (by kernel_rfl) (by kernel_rfl) ?_
  refine WO_one rfl (One_box_own (d := 9) (e := 29) (x := (.tmp 8)) (.agg #[.slice a1 (List.length p0) c1, .int .i64 0]) (by kernel_rfl) rfl (by kernel_rfl) st ?_)
  clear st
  intro b1 w1 st
  refine WO_seg 1 [(3, .pointer (some ⟨b1, 0, none⟩))] (by kernel_rfl) (by kernel_rfl) ?_
  refine WO_end rfl ?_
  refine X_then ?_
  refine W_seq ?_
  refine W_region ?_
  refine WO_seg 1 [(4, .string (⟨#[]⟩ : ByteArray))] (by kernel_rfl) (by kernel_rfl) ?_
  refine WO_end rfl ?_
  refine X_then ?_
  refine W_seq ?_
  refine W_seq ?_
  refine W_region ?_
  refine WO_seg 1 [(10, .pointer (some ⟨b1, 0, none⟩))] (by kernel_rfl) (by kernel_rfl) ?_
  replace hr := bindS hr
  obtain ⟨y1, hx1, hr⟩ := hr
  refine WO_one rfl (One_fn 11 20 #[.pointer (some ⟨b1, 0, none⟩)] (by kernel_rfl) rfl ?_)
  refine (testgatelaw04_words_ok st r1 hx1).mono ?_
  clear st
  rintro _ w2 ⟨a2, c2, a3, c3, m2, rfl, hle2, st, r2, r3⟩
  refine ⟨_, rfl, ?_⟩
  have hm := Mem.le_trans hm hle2
  have r1 := r1.mono hle2
  refine WO_seg 2 [(12, .int .i64 (List.length y1.2 : Int)), (13, .int .i64 0)] (by kernel_rfl) (by kernel_rfl) ?_
  refine WO_end rfl ?_
  refine X_then ?_
  refine W_block ?_
  replace hr := bindS hr
  obtain ⟨out1, hr, hrKu1⟩ := hr
  refine W_cut (.exit 0) (fun L' w' => ∃ (o1 : ByteArray × List (Int) × Int) (a4 : Option Addr) (c4 : Nat) (m3 : Mem), o1 = out1 ∧ L' = [(4, .string o1.1)] ∧ m.le m3 ∧ St m3 (.blk b1 (.cells #[.slice a4 (List.length o1.2.1) c4, .int .i64 o1.2.2] 29 (0, 0)) :: .room a3 (List.length y1.2) c3 9 1 :: own) w' ∧ RepS (cInt .i64) m3 a4 c4 o1.2.1) ?_ ?_
  · clear hr st
    rintro _ w3 ⟨o1, a4, c4, m3, rfl, rfl, hm, st, r4⟩
    have hr := hrKu1
    clear hrKu1
    refine X_block_eq ?_
    refine X_then ?_
    refine W_seq ?_
    refine W_region ?_
    replace hr := bindS hr
    obtain ⟨o2, hr, hrK⟩ := hr
    refine WO_cut (j := 6) (fun L' w' => ∃ (m7 : Mem), L' = [(2, .bool o2)] ∧ m.le m7 ∧ St m7 (.blk b1 (.cells #[.slice a4 (List.length o1.2.1) c4, .int .i64 o1.2.2] 29 (0, 0)) :: .room a3 (List.length y1.2) c3 9 1 :: own) w' ∧ RepS (cInt .i64) m7 a4 c4 o1.2.1) ?_ ?_
    · clear hr st
      have hr := hrK
      clear hrK
      rintro _ w7 ⟨m7, rfl, hm, st, r4⟩
      refine WO_end rfl ?_
      refine X_then ?_
      refine W_ret ?_
      obtain rfl := Option.some.inj hr
      refine X_ret [.tmp 2] [.bool o2] rfl (ResAll.cons (ResAt.tmp (by kernel_rfl)) ResAll.nil) ?_
      have st := st.tail
      have st := st.tail
      exact ⟨m7, rfl, hm, st⟩
    · intro K
      clear hrK
      refine WO_seg 1 [(25, .string o1.1)] (by kernel_rfl) (by kernel_rfl) ?_
      replace hr := bindS hr
      obtain ⟨y3, hx6, hr⟩ := hr
      refine WO_one rfl (One_fn 26 14 #[.string o1.1] (by kernel_rfl) rfl ?_)
      refine (testgatelaw04_same_ok st hx6).mono ?_
      clear st
      rintro _ w8 ⟨m8, rfl, hle5, st⟩
      refine ⟨_, rfl, ?_⟩
      have hm := Mem.le_trans hm hle5
      have r4 := r4.mono hle5
      refine WO_seg 1 [(27, .bool y3)] (by kernel_rfl) (by kernel_rfl) ?_
      rcases bcases y3 with hc | hc
      · rw [if_pos hc] at hr
        refine WO_fact (t := 27) (b := true) y3 (by kernel_rfl) hc ?_
        replace hr := bindS hr
        obtain ⟨y4, hx7, hr⟩ := hr
        refine WO_one rfl (One_fn 28 19 #[] (by kernel_rfl) rfl ?_)
        refine (testgatelaw04_awake_ok st hx7).mono ?_
        clear st
        rintro _ w9 ⟨m9, rfl, hle6, st⟩
        refine ⟨_, rfl, ?_⟩
        have hm := Mem.le_trans hm hle6
        have r4 := r4.mono hle6
        refine WO_seg 2 [(2, .bool y4)] (by kernel_rfl) (by kernel_rfl) ?_
        obtain rfl := Option.some.inj hr
        have st := st.front1
        have st := st.front1
        exact WO_env _ (by kernel_rfl) (K _ _ ⟨m9, rfl, hm, st, r4⟩)
      · rw [if_neg (not_true hc)] at hr
        refine WO_fact (t := 27) (b := false) y3 (by kernel_rfl) hc ?_
        refine WO_seg 3 [(2, .bool false)] (by kernel_rfl) (by kernel_rfl) ?_
        obtain rfl := Option.some.inj hr
        have st := st.front1
        have st := st.front1
        exact WO_env _ (by kernel_rfl) (K _ _ ⟨m8, rfl, hm, st, r4⟩)
  intro K0_u1
  clear hrKu1
  have st := st.front1
  refine W_env _ (by kernel_rfl) (W_loop (fun k1 L' w' => ∃ (s1 : ByteArray × Int × List (Int) × Int) (a5 : Option Addr) (c5 : Nat) (m4 : Mem), loopM (testgatelaw04_LexerWords_L1 N y1) k1 s1 = some out1 ∧ L' = [(3, .pointer (some ⟨b1, 0, none⟩)), (4, .string s1.1), (11, .slice a3 (List.length y1.2) c3), (12, .int .i64 (List.length y1.2 : Int)), (13, .int .i64 s1.2.1)] ∧ m.le m4 ∧ St m4 (.blk b1 (.cells #[.slice a5 (List.length s1.2.2.1) c5, .int .i64 s1.2.2.2] 29 (0, 0)) :: .room a3 (List.length y1.2) c3 9 1 :: own) w' ∧ RepS cStr m4 a3 c3 y1.2 ∧ RepS (cInt .i64) m4 a5 c5 s1.2.2.1) N ⟨((⟨#[]⟩ : ByteArray), 0, y1.1.1, y1.1.2), a2, c2, m2, hr, rfl, hm, st, r3, r2⟩ ?_)
  clear st hr
  rintro k1 _ w4 ⟨s1, a5, c5, m4, hL, rfl, hm, st, r3, r5⟩
  rcases k1 with _ | k1
  · exact loopM_zero hL
  · obtain ⟨qu1, hr, hSu1, hBu1⟩ := loopM_succ hL
    clear hL
    unfold testgatelaw04_LexerWords_L1 at hr
    refine W_seq ?_
    refine W_region ?_
    refine WO_seg 1 [(14, .bool (decide (s1.2.1 < (List.length y1.2 : Int))))] (by kernel_rfl) (by kernel_rfl) ?_
    refine WO_end rfl ?_
    refine X_then ?_
    refine W_seq ?_
    refine W_cond (decide (s1.2.1 < (List.length y1.2 : Int))) (by kernel_rfl) ?_ ?_
    · intro hc
      rw [if_pos hc] at hr
      refine W_skip ?_
      refine X_then ?_
      refine W_seq ?_
      refine W_block ?_
      refine W_seq ?_
      refine W_region ?_
      replace hr := bindS hr
      obtain ⟨x1, hx2, hr⟩ := hr
      refine WO_one rfl (One_index (d := 15) (t := 30) (e := 9) (x := (.tmp 11)) (y := (.tmp 13)) cStr (by kernel_rfl) rfl (show evL _ _ = some (.slice a3 (List.length y1.2) c3) from (by kernel_rfl)) (show evL _ _ = some (.int .i64 s1.2.1) from (by kernel_rfl)) (by kernel_rfl) r3 hx2 ?_)
      rintro b2 f1 cs1 rfl hq1
      refine WO_one rfl (One_load_row (d := 16) (t := 9) (x := (.tmp 15)) (.string x1) (by kernel_rfl) rfl (show evL _ _ = some (.pointer (some ⟨b2, f1, none⟩)) from (by kernel_rfl)) st hq1 (by kernel_rfl) ?_)
      refine WO_seg 1 [(6, .string x1)] (by kernel_rfl) (by kernel_rfl) ?_
      refine WO_end rfl ?_
      refine X_then ?_
      refine W_region ?_
      refine WO_seg 2 [(17, .string s1.1), (18, .pointer (some ⟨b1, 0, none⟩))] (by kernel_rfl) (by kernel_rfl) ?_
      refine WO_one rfl (One_buildSlice (d := 19) (t := 30) (e := 9) (len := 8) (parts := #[(0, (.const (.string (⟨#[]⟩ : ByteArray)))), (1, (.const (.string (⟨#[32]⟩ : ByteArray)))), (2, (.const (.string (⟨#[32, 32]⟩ : ByteArray)))), (3, (.const (.string (⟨#[10]⟩ : ByteArray)))), (4, (.const (.string (⟨#[9, 13]⟩ : ByteArray)))), (5, (.const (.string (⟨#[35, 32, 99, 10]⟩ : ByteArray)))), (6, (.const (.string (⟨#[35]⟩ : ByteArray)))), (7, (.const (.string (⟨#[11]⟩ : ByteArray))))]) cStr (xs := [(⟨#[]⟩ : ByteArray), (⟨#[32]⟩ : ByteArray), (⟨#[32, 32]⟩ : ByteArray), (⟨#[10]⟩ : ByteArray), (⟨#[9, 13]⟩ : ByteArray), (⟨#[35, 32, 99, 10]⟩ : ByteArray), (⟨#[35]⟩ : ByteArray), (⟨#[11]⟩ : ByteArray)]) [.string (⟨#[]⟩ : ByteArray), .string (⟨#[32]⟩ : ByteArray), .string (⟨#[32, 32]⟩ : ByteArray), .string (⟨#[10]⟩ : ByteArray), .string (⟨#[9, 13]⟩ : ByteArray), .string (⟨#[35, 32, 99, 10]⟩ : ByteArray), .string (⟨#[35]⟩ : ByteArray), .string (⟨#[11]⟩ : ByteArray)] (by kernel_rfl) rfl (fun _ => buildCells_run (by kernel_rfl) _) rfl rfl st ⟨[.string (⟨#[]⟩ : ByteArray)], _, rfl, rfl, ⟨[.string (⟨#[32]⟩ : ByteArray)], _, rfl, rfl, ⟨[.string (⟨#[32, 32]⟩ : ByteArray)], _, rfl, rfl, ⟨[.string (⟨#[10]⟩ : ByteArray)], _, rfl, rfl, ⟨[.string (⟨#[9, 13]⟩ : ByteArray)], _, rfl, rfl, ⟨[.string (⟨#[35, 32, 99, 10]⟩ : ByteArray)], _, rfl, rfl, ⟨[.string (⟨#[35]⟩ : ByteArray)], _, rfl, rfl, ⟨[.string (⟨#[11]⟩ : ByteArray)], _, rfl, rfl, rfl⟩⟩⟩⟩⟩⟩⟩⟩ ?_)
      clear st
      intro b3 m5 w5 hle3 st r6
      have hm := Mem.le_trans hm hle3
      have r3 := r3.mono hle3
      have r5 := r5.mono hle3
      have st := st.front1
      replace hr := bindS hr
      obtain ⟨y2, hx3, hr⟩ := hr
      refine WO_one rfl (One_fn 20 21 #[.pointer (some ⟨b1, 0, none⟩), .slice (some ⟨b3, 0, none⟩) (List.length ([(⟨#[]⟩ : ByteArray), (⟨#[32]⟩ : ByteArray), (⟨#[32, 32]⟩ : ByteArray), (⟨#[10]⟩ : ByteArray), (⟨#[9, 13]⟩ : ByteArray), (⟨#[35, 32, 99, 10]⟩ : ByteArray), (⟨#[35]⟩ : ByteArray), (⟨#[11]⟩ : ByteArray)])) 8] (by kernel_rfl) rfl ?_)
      refine (testgatemake_Tape_One_ok st r5 r6 hx3).mono ?_
      clear st
      rintro _ w6 ⟨a6, c6, m6, rfl, hle4, st, r7⟩
      refine ⟨_, rfl, ?_⟩
      have hm := Mem.le_trans hm hle4
      have r3 := r3.mono hle4
      have r6 := r6.mono hle4
      have r5 := r5.mono hle4
      refine WO_seg 1 [(21, .string x1)] (by kernel_rfl) (by kernel_rfl) ?_
      replace hr := bindS hr
      obtain ⟨s2, hx4, hr⟩ := hr
      refine WO_one rfl (One_cat (d := 22) (t := 9) (t2 := 9) (x := (.tmp 20)) (y := (.tmp 21)) (by kernel_rfl) rfl (show evL _ _ = some (.string y2.2) from (by kernel_rfl)) (show evL _ _ = some (.string x1) from (by kernel_rfl)) hx4 ?_)
      replace hr := bindS hr
      obtain ⟨s3, hx5, hr⟩ := hr
      refine WO_one rfl (One_cat (d := 23) (t := 9) (t2 := 9) (x := (.tmp 17)) (y := (.tmp 22)) (by kernel_rfl) rfl (show evL _ _ = some (.string s1.1) from (by kernel_rfl)) (show evL _ _ = some (.string s2) from (by kernel_rfl)) hx5 ?_)
      refine WO_seg 1 [(4, .string s3)] (by kernel_rfl) (by kernel_rfl) ?_
      refine WO_end rfl ?_
      have st := st.front1
      have st := st.tail
      refine X_block ?_
      refine X_then ?_
      refine W_region ?_
      refine WO_seg 2 [(13, .int .i64 (IntKind.wrap .i64 (s1.2.1 + 1)))] (by kernel_rfl) (by kernel_rfl) ?_
      refine WO_end rfl ?_
      obtain rfl := Option.some.inj hr
      have hL := hSu1 _ rfl
      have st := st.front1
      have st := st.front1
      exact X_env _ (by kernel_rfl) (X_round k1 (Nat.lt_succ_self _) ⟨(s3, IntKind.wrap .i64 (s1.2.1 + 1), y2.1.1, y2.1.2), a6, c6, m6, hL, rfl, hm, st, r3, r7⟩)
    · intro hc
      rw [if_neg (not_true hc)] at hr
      refine W_exit ?_
      refine X_then_exit ?_
      obtain rfl := Option.some.inj hr
      have ho := hBu1 _ rfl
      have st := st.front1
      have st := st.front1
      refine X_then_exit ?_
      exact X_env _ (by kernel_rfl) (K0_u1 _ _ ⟨(s1.1, s1.2.2.1, s1.2.2.2), a5, c5, m4, ho, rfl, hm, st, r5⟩)

end Go.Proofs.YtfodebccikifcaaDoor
