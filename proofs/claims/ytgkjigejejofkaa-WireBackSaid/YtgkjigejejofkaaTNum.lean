/- MADE BY gen.py: plain functions and the proofs that the Go functions compute them. No condition but those of each theorem. -/
import Derived.Test.YtgkjigejejofkaaProg
import Derived.Test.YtgkjigejejofkaaMap
import Derived.Test.YtgkjigejejofkaaTNumA
namespace Go.Proofs.Ytgkjigejejofkaa
open Go Go.Dc

def testgatelaw03_WireBack_L1 (N : Nat) (p1 : Int) (s1 : List (UInt8) × List (Int) × List (ByteArray) × Int × List (Int) × Int) : Option ((List (UInt8) × List (Int) × List (ByteArray) × Int × List (Int) × Int) ⊕ ((List (UInt8) × List (Int) × List (ByteArray) × List (Int) × Int))) :=
  if (decide (s1.2.2.2.1 > 0)) = true then ((testgatemake_Tape_Next N (s1.2.2.2.2.1, s1.2.2.2.2.2) 64).bind fun y2 => (shrS .u64 p1 (IntKind.wrap .u64 y2.2)).bind fun i1 => (testgatemake_Tape_Next N (y2.1.1, y2.1.2) 20).bind fun y3 => (testgatemake_Tape_Text N (y3.1.1, y3.1.2) y3.2 (⟨#[97, 98, 247, 0]⟩ : ByteArray)).bind fun y4 => (appendS 8 s1.2.1 ([i1])).bind fun l1 => (appendS 16 s1.2.2.1 ([y4.2])).bind fun l2 => (wire_PutUint N s1.1 i1).bind fun y5 => (wire_PutInt N y5 (IntKind.wrap .i64 i1)).bind fun y6 => (wire_PutText N y6 y4.2).bind fun y7 => some (.inl (y7, l1, l2, IntKind.wrap .i64 (s1.2.2.2.1 - 1), y4.1.1, y4.1.2))) else (some (.inr (s1.1, s1.2.1, s1.2.2.1, s1.2.2.2.2.1, s1.2.2.2.2.2)))

def testgatelaw03_WireBack_L2 (N : Nat) (o1 : List (UInt8) × List (Int) × List (ByteArray) × List (Int) × Int) (s2 : Int × Int) : Option ((Int × Int) ⊕ ((Int) ⊕ (Bool))) :=
  if (decide (s2.2 < (List.length o1.2.1 : Int))) = true then ((wire_Uint N o1.1 s2.1).bind fun y8 => (wire_Int N o1.1 y8.2.1).bind fun y9 => (wire_Text N o1.1 y9.2.1 20).bind fun y10 => (if (y8.2.2 != 0) = true then (some true) else (if (y9.2.2 != 0) = true then (some true) else (if (y10.2.2 != 0) = true then (some true) else ((idx o1.2.1 s2.2).bind fun x1 => if (y8.1 != x1) = true then (some true) else ((idx o1.2.1 s2.2).bind fun x2 => if (y9.1 != (IntKind.wrap .i64 x2)) = true then (some true) else ((idx o1.2.2.1 s2.2).bind fun x3 => some (!(y10.1.toList == x3.toList))))))) : Option (Bool)).bind fun o3 => if o3 = true then (some (.inr (.inr (false)))) else (some (.inl (y10.2.1, IntKind.wrap .i64 (s2.2 + 1))))) else (some (.inr (.inl s2.1)))

def testgatelaw03_WireBack (N : Nat) (p0 : List Int) (p1 : Int) : Option (Bool) :=
  (testgatemake_Tape_Next N (p0, 0) 8).bind fun y1 => (loopM (testgatelaw03_WireBack_L1 N p1) N (([] : List (UInt8)), ([] : List (Int)), ([] : List (ByteArray)), y1.2, y1.1.1, y1.1.2)).bind fun o1 => (loopM (testgatelaw03_WireBack_L2 N o1) N (0, 0)).bind fun out2 => match out2 with | .inl o2 => (if (o2 == (List.length o1.1 : Int)) = true then ((testgatelaw03_awake N).bind fun y11 => some y11) else (some false) : Option (Bool)).bind fun o4 => some o4 | .inr (z) => some z

theorem testgatelaw03_WireBack_ok {N : Nat} {m : Mem} {own : List Piece} {w : World} {p0 : List Int} {p1 : Int} {a1 : Option Addr} {c1 : Nat} {r : Bool} (st : St m (own) w) (r1 : RepS (cInt .i64) m a1 c1 p0) (hr : testgatelaw03_WireBack N p0 p1 = some r) : Calls Go.Proofs.Try.prog 9 #[.slice a1 (List.length p0) c1, .int .u64 p1] w fun e w' => ∃ (m' : Mem), e = .returned (.bool r) ∧ m.le m' ∧ St m' (own) w' := by
  unfold testgatelaw03_WireBack at hr
  have hm := m.le_refl
  refine W_calls Go.Proofs.Try.func9 rfl Go.Proofs.Try.ntmps9 [(0, .slice a1 (List.length p0) c1), (1, .int .u64 p1)] (by kernel_rfl) rfl ?_
  refine W_seq ?_
  refine W_region ?_
  refine WO_seg 1 [] (by kernel_rfl) (by kernel_rfl) ?_
  refine WO_end rfl ?_
  refine X_then ?_
  refine W_seq ?_
  refine W_region ?_
  refine WO_seg 2 [(22, .agg #[.slice a1 (List.length p0) c1, .int .i64 0])] (by kernel_rfl) (by kernel_rfl) ?_
  refine WO_one rfl (One_box_own (d := 23) (e := 35) (x := (.tmp 22)) (.agg #[.slice a1 (List.length p0) c1, .int .i64 0]) (by kernel_rfl) rfl (by kernel_rfl) st ?_)
  clear st
  intro b1 w1 st
  refine WO_seg 1 [(5, .pointer (some ⟨b1, 0, none⟩))] (by kernel_rfl) (by kernel_rfl) ?_
  refine WO_end rfl ?_
  refine X_then ?_
  refine W_seq ?_
  refine W_region ?_
  refine WO_seg 1 [(6, .slice none (List.length ([] : List (UInt8))) 0)] (by kernel_rfl) (by kernel_rfl) ?_
  refine WO_end rfl ?_
  refine X_then ?_
  refine W_seq ?_
  refine W_region ?_
  refine WO_seg 1 [(7, .slice none (List.length ([] : List (Int))) 0)] (by kernel_rfl) (by kernel_rfl) ?_
  refine WO_end rfl ?_
  refine X_then ?_
  refine W_seq ?_
  refine W_region ?_
  refine WO_seg 1 [(8, .slice none (List.length ([] : List (ByteArray))) 0)] (by kernel_rfl) (by kernel_rfl) ?_
  refine WO_end rfl ?_
  refine X_then ?_
  refine W_seq ?_
  refine W_seq ?_
  refine W_region ?_
  refine WO_seg 1 [(24, .pointer (some ⟨b1, 0, none⟩))] (by kernel_rfl) (by kernel_rfl) ?_
  obtain ⟨y1, hx1, hr⟩ := bindS hr
  refine WO_one rfl (One_fn 25 25 #[.pointer (some ⟨b1, 0, none⟩), .int .i64 8] (by kernel_rfl) rfl ?_)
  refine (testgatemake_Tape_Next_ok st r1 hx1).mono ?_
  clear st
  rintro _ w2 ⟨a2, c2, m2, rfl, hle2, st, r2⟩
  refine ⟨_, rfl, ?_⟩
  have hm := Mem.le_trans hm hle2
  have r1 := r1.mono hle2
  refine WO_seg 1 [(9, .int .i64 y1.2)] (by kernel_rfl) (by kernel_rfl) ?_
  refine WO_end rfl ?_
  refine X_then ?_
  refine W_block ?_
  obtain ⟨out1, hr, hrKu1⟩ := bindS hr
  refine W_cut (.exit 0) (fun L' w' => ∃ (o1 : List (UInt8) × List (Int) × List (ByteArray) × List (Int) × Int) (a3 : Option Addr) (c3 : Nat) (a4 : Option Addr) (c4 : Nat) (a5 : Option Addr) (c5 : Nat) (a6 : Option Addr) (c6 : Nat) (m3 : Mem), o1 = out1 ∧ L' = [(6, .slice a3 (List.length o1.1) c3), (7, .slice a4 (List.length o1.2.1) c4), (8, .slice a5 (List.length o1.2.2.1) c5)] ∧ m.le m3 ∧ St m3 (.blk b1 (.cells #[.slice a6 (List.length o1.2.2.2.1) c6, .int .i64 o1.2.2.2.2] 35 (0, 0)) :: .room a3 (List.length o1.1) c3 5 1 :: .room a4 (List.length o1.2.1) c4 69 1 :: .room a5 (List.length o1.2.2.1) c5 9 1 :: own) w' ∧ RepS cU8 m3 a3 c3 o1.1 ∧ RepS (cInt .u64) m3 a4 c4 o1.2.1 ∧ RepS cStr m3 a5 c5 o1.2.2.1 ∧ RepS (cInt .i64) m3 a6 c6 o1.2.2.2.1) ?_ ?_
  · clear hr st
    rintro _ w3 ⟨o1, a3, c3, a4, c4, a5, c5, a6, c6, m3, rfl, rfl, hm, st, r3, r4, r5, r6⟩
    have hr := hrKu1
    clear hrKu1
    refine X_block_eq ?_
    refine X_then ?_
    refine W_seq ?_
    refine W_region ?_
    refine WO_seg 1 [(12, .int .i64 0)] (by kernel_rfl) (by kernel_rfl) ?_
    refine WO_end rfl ?_
    refine X_then ?_
    refine W_seq ?_
    refine W_seq ?_
    refine W_region ?_
    refine WO_seg 3 [(56, .int .i64 (List.length o1.2.1 : Int)), (57, .int .i64 0)] (by kernel_rfl) (by kernel_rfl) ?_
    refine WO_end rfl ?_
    refine X_then ?_
    refine W_block ?_
    obtain ⟨out2, hr, hrKu2⟩ := bindS hr
    refine W_cut (.exit 2) (fun L' w' => ∃ (o2 : Int) (m15 : Mem), (.inl o2) = out2 ∧ L' = [(6, .slice a3 (List.length o1.1) c3), (12, .int .i64 o2)] ∧ m.le m15 ∧ St m15 (.blk b1 (.cells #[.slice a6 (List.length o1.2.2.2.1) c6, .int .i64 o1.2.2.2.2] 35 (0, 0)) :: .room a3 (List.length o1.1) c3 5 1 :: .room a4 (List.length o1.2.1) c4 69 1 :: .room a5 (List.length o1.2.2.1) c5 9 1 :: own) w' ∧ RepS cU8 m15 a3 c3 o1.1 ∧ RepS (cInt .i64) m15 a6 c6 o1.2.2.2.1) ?_ ?_
    · clear hr st
      rintro _ w15 ⟨o2, m15, rfl, rfl, hm, st, r3, r6⟩
      have hr := hrKu2
      clear hrKu2
      dsimp only at hr
      refine X_block_eq ?_
      refine X_then ?_
      refine W_seq ?_
      refine W_region ?_
      obtain ⟨o4, hr, hrK⟩ := bindS hr
      refine WO_cut (j := 8) (fun L' w' => ∃ (m21 : Mem), L' = [(4, .bool o4)] ∧ m.le m21 ∧ St m21 (.blk b1 (.cells #[.slice a6 (List.length o1.2.2.2.1) c6, .int .i64 o1.2.2.2.2] 35 (0, 0)) :: .room a3 (List.length o1.1) c3 5 1 :: .room a4 (List.length o1.2.1) c4 69 1 :: .room a5 (List.length o1.2.2.1) c5 9 1 :: own) w' ∧ RepS (cInt .i64) m21 a6 c6 o1.2.2.2.1) ?_ ?_
      · clear hr st
        have hr := hrK
        clear hrK
        rintro _ w21 ⟨m21, rfl, hm, st, r6⟩
        refine WO_end rfl ?_
        refine X_then ?_
        refine W_ret ?_
        obtain rfl := Option.some.inj hr
        refine X_ret [.tmp 4] [.bool o4] rfl (ResAll.cons (ResAt.tmp (by kernel_rfl)) ResAll.nil) ?_
        have st := st.tail
        have st := st.tail
        have st := st.tail
        have st := st.tail
        exact ⟨m21, rfl, hm, st⟩
      · intro K
        clear hrK
        refine WO_seg 5 [(122, .bool (o2 == (List.length o1.1 : Int)))] (by kernel_rfl) (by kernel_rfl) ?_
        rcases bcases (o2 == (List.length o1.1 : Int)) with hc | hc
        · rw [if_pos hc] at hr
          refine WO_fact (t := 122) (b := true) (o2 == (List.length o1.1 : Int)) (by kernel_rfl) hc ?_
          obtain ⟨y11, hx17, hr⟩ := bindS hr
          refine WO_one rfl (One_fn 123 41 #[] (by kernel_rfl) rfl ?_)
          refine (testgatelaw03_awake_ok st hx17).mono ?_
          clear st
          rintro _ w22 ⟨m22, rfl, hle16, st⟩
          refine ⟨_, rfl, ?_⟩
          have hm := Mem.le_trans hm hle16
          have r3 := r3.mono hle16
          have r6 := r6.mono hle16
          refine WO_seg 2 [(4, .bool y11)] (by kernel_rfl) (by kernel_rfl) ?_
          obtain rfl := Option.some.inj hr
          have st := st.front3
          have st := st.front3
          have st := st.front3
          have st := st.front3
          exact WO_env _ (by kernel_rfl) (K _ _ ⟨m22, rfl, hm, st, r6⟩)
        · rw [if_neg (not_true hc)] at hr
          refine WO_fact (t := 122) (b := false) (o2 == (List.length o1.1 : Int)) (by kernel_rfl) hc ?_
          refine WO_seg 3 [(4, .bool false)] (by kernel_rfl) (by kernel_rfl) ?_
          obtain rfl := Option.some.inj hr
          have st := st.front3
          have st := st.front3
          have st := st.front3
          have st := st.front3
          exact WO_env _ (by kernel_rfl) (K _ _ ⟨m15, rfl, hm, st, r6⟩)
    intro K2_u2
    have st := st.front3
    have st := st.front3
    have st := st.front3
    have st := st.front3
    refine W_env _ (by kernel_rfl) (W_loop (fun k2 L' w' => ∃ (s2 : Int × Int) (m16 : Mem), loopM (testgatelaw03_WireBack_L2 N o1) k2 s2 = some out2 ∧ L' = [(6, .slice a3 (List.length o1.1) c3), (7, .slice a4 (List.length o1.2.1) c4), (8, .slice a5 (List.length o1.2.2.1) c5), (12, .int .i64 s2.1), (56, .int .i64 (List.length o1.2.1 : Int)), (57, .int .i64 s2.2)] ∧ m.le m16 ∧ St m16 (.blk b1 (.cells #[.slice a6 (List.length o1.2.2.2.1) c6, .int .i64 o1.2.2.2.2] 35 (0, 0)) :: .room a3 (List.length o1.1) c3 5 1 :: .room a4 (List.length o1.2.1) c4 69 1 :: .room a5 (List.length o1.2.2.1) c5 9 1 :: own) w' ∧ RepS cU8 m16 a3 c3 o1.1 ∧ RepS (cInt .u64) m16 a4 c4 o1.2.1 ∧ RepS cStr m16 a5 c5 o1.2.2.1 ∧ RepS (cInt .i64) m16 a6 c6 o1.2.2.2.1) N ⟨(0, 0), m3, hr, rfl, hm, st, r3, r4, r5, r6⟩ ?_)
    clear st hr
    rintro k2 _ w16 ⟨s2, m16, hL, rfl, hm, st, r3, r4, r5, r6⟩
    rcases k2 with _ | k2
    · exact loopM_zero hL
    · obtain ⟨qu2, hr, hSu2, hBu2⟩ := loopM_succ hL
      clear hL
      unfold testgatelaw03_WireBack_L2 at hr
      refine W_seq ?_
      refine W_region ?_
      refine WO_seg 1 [(58, .bool (decide (s2.2 < (List.length o1.2.1 : Int))))] (by kernel_rfl) (by kernel_rfl) ?_
      refine WO_end rfl ?_
      refine X_then ?_
      refine W_seq ?_
      refine W_cond (decide (s2.2 < (List.length o1.2.1 : Int))) (by kernel_rfl) ?_ ?_
      · intro hc
        rw [if_pos hc] at hr
        refine W_skip ?_
        refine X_then ?_
        refine W_seq ?_
        refine W_block ?_
        refine W_seq ?_
        refine W_region ?_
        refine WO_seg 2 [(13, .int .i64 s2.2)] (by kernel_rfl) (by kernel_rfl) ?_
        refine WO_end rfl ?_
        refine X_then ?_
        refine W_seq ?_
        refine W_region ?_
        refine WO_seg 2 [(61, .slice a3 (List.length o1.1) c3), (62, .int .i64 s2.1)] (by kernel_rfl) (by kernel_rfl) ?_
        obtain ⟨y8, hx11, hr⟩ := bindS hr
        refine WO_one rfl (One_fn 63 49 #[.slice a3 (List.length o1.1) c3, .int .i64 s2.1] (by kernel_rfl) rfl ?_)
        refine (wire_Uint_ok st r3 hx11).mono ?_
        clear st
        rintro _ w17 ⟨m17, rfl, hle13, st⟩
        refine ⟨_, rfl, ?_⟩
        have hm := Mem.le_trans hm hle13
        have r3 := r3.mono hle13
        have r4 := r4.mono hle13
        have r5 := r5.mono hle13
        have r6 := r6.mono hle13
        refine WO_seg 7 [(14, .int .u64 y8.1), (15, .int .i64 y8.2.1), (16, .int .i64 y8.2.2)] (by kernel_rfl) (by kernel_rfl) ?_
        refine WO_end rfl ?_
        refine X_then ?_
        refine W_seq ?_
        refine W_region ?_
        refine WO_seg 2 [(68, .slice a3 (List.length o1.1) c3), (69, .int .i64 y8.2.1)] (by kernel_rfl) (by kernel_rfl) ?_
        obtain ⟨y9, hx12, hr⟩ := bindS hr
        refine WO_one rfl (One_fn 70 51 #[.slice a3 (List.length o1.1) c3, .int .i64 y8.2.1] (by kernel_rfl) rfl ?_)
        refine (wire_Int_ok st r3 hx12).mono ?_
        clear st
        rintro _ w18 ⟨m18, rfl, hle14, st⟩
        refine ⟨_, rfl, ?_⟩
        have hm := Mem.le_trans hm hle14
        have r3 := r3.mono hle14
        have r4 := r4.mono hle14
        have r5 := r5.mono hle14
        have r6 := r6.mono hle14
        refine WO_seg 7 [(17, .int .i64 y9.1), (15, .int .i64 y9.2.1), (18, .int .i64 y9.2.2)] (by kernel_rfl) (by kernel_rfl) ?_
        refine WO_end rfl ?_
        refine X_then ?_
        refine W_seq ?_
        refine W_region ?_
        refine WO_seg 2 [(75, .slice a3 (List.length o1.1) c3), (76, .int .i64 y9.2.1)] (by kernel_rfl) (by kernel_rfl) ?_
        obtain ⟨y10, hx13, hr⟩ := bindS hr
        refine WO_one rfl (One_fn 77 53 #[.slice a3 (List.length o1.1) c3, .int .i64 y9.2.1, .int .i64 20] (by kernel_rfl) rfl ?_)
        refine (wire_Text_ok st r3 hx13).mono ?_
        clear st
        rintro _ w19 ⟨m19, rfl, hle15, st⟩
        refine ⟨_, rfl, ?_⟩
        have hm := Mem.le_trans hm hle15
        have r3 := r3.mono hle15
        have r4 := r4.mono hle15
        have r5 := r5.mono hle15
        have r6 := r6.mono hle15
        refine WO_seg 7 [(19, .string y10.1), (15, .int .i64 y10.2.1), (20, .int .i64 y10.2.2)] (by kernel_rfl) (by kernel_rfl) ?_
        refine WO_end rfl ?_
        refine X_then ?_
        refine W_seq ?_
        refine W_seq ?_
        refine W_region ?_
        obtain ⟨o3, hr, hrK⟩ := bindS hr
        refine WO_cut (j := 35) (fun L' w' => ∃ (m20 : Mem), L' = [(6, .slice a3 (List.length o1.1) c3), (7, .slice a4 (List.length o1.2.1) c4), (8, .slice a5 (List.length o1.2.2.1) c5), (15, .int .i64 y10.2.1), (56, .int .i64 (List.length o1.2.1 : Int)), (57, .int .i64 s2.2), (115, .bool o3)] ∧ m.le m20 ∧ St m20 (.blk b1 (.cells #[.slice a6 (List.length o1.2.2.2.1) c6, .int .i64 o1.2.2.2.2] 35 (0, 0)) :: .room a3 (List.length o1.1) c3 5 1 :: .room a4 (List.length o1.2.1) c4 69 1 :: .room a5 (List.length o1.2.2.1) c5 9 1 :: own) w' ∧ RepS cU8 m20 a3 c3 o1.1 ∧ RepS (cInt .u64) m20 a4 c4 o1.2.1 ∧ RepS cStr m20 a5 c5 o1.2.2.1 ∧ RepS (cInt .i64) m20 a6 c6 o1.2.2.2.1) ?_ ?_
        · clear hr st
          have hr := hrK
          clear hrK
          rintro _ w20 ⟨m20, rfl, hm, st, r3, r4, r5, r6⟩
          refine WO_end rfl ?_
          refine X_then ?_
          refine W_cond o3 (by kernel_rfl) ?_ ?_
          · intro hc
            rw [if_pos hc] at hr
            refine W_seq ?_
            refine W_region ?_
            refine WO_seg 1 [(4, .bool false)] (by kernel_rfl) (by kernel_rfl) ?_
            refine WO_end rfl ?_
            refine X_then ?_
            refine W_ret ?_
            refine X_then_ret ?_
            refine X_block_ret ?_
            refine X_then_ret ?_
            obtain rfl := Option.some.inj hr
            have ho := hBu2 _ rfl
            subst ho
            have hr := hrKu2
            dsimp only at hr
            refine X_then_ret ?_
            refine X_block_ret ?_
            refine X_then_ret ?_
            obtain rfl := Option.some.inj hr
            refine X_ret [.tmp 4] [.bool false] rfl (ResAll.cons (ResAt.tmp (by kernel_rfl)) ResAll.nil) ?_
            have st := st.tail
            have st := st.tail
            have st := st.tail
            have st := st.tail
            exact ⟨m20, rfl, hm, st⟩
          · intro hc
            rw [if_neg (not_true hc)] at hr
            refine W_skip ?_
            refine X_then ?_
            refine W_region ?_
            refine WO_seg 2 [(12, .int .i64 y10.2.1)] (by kernel_rfl) (by kernel_rfl) ?_
            refine WO_end rfl ?_
            refine X_block ?_
            refine X_then ?_
            refine W_region ?_
            refine WO_seg 2 [(57, .int .i64 (IntKind.wrap .i64 (s2.2 + 1)))] (by kernel_rfl) (by kernel_rfl) ?_
            refine WO_end rfl ?_
            obtain rfl := Option.some.inj hr
            have hL := hSu2 _ rfl
            have st := st.front3
            have st := st.front3
            have st := st.front3
            have st := st.front3
            exact X_env _ (by kernel_rfl) (X_round k2 (Nat.lt_succ_self _) ⟨(y10.2.1, IntKind.wrap .i64 (s2.2 + 1)), m20, hL, rfl, hm, st, r3, r4, r5, r6⟩)
        · intro K
          clear hrK
          refine WO_seg 3 [(83, .bool (y8.2.2 != 0))] (by kernel_rfl) (by kernel_rfl) ?_
          rcases bcases (y8.2.2 != 0) with hc | hc
          · rw [if_pos hc] at hr
            refine WO_fact (t := 83) (b := true) (y8.2.2 != 0) (by kernel_rfl) hc ?_
            refine WO_seg 32 [(115, .bool true)] (by kernel_rfl) (by kernel_rfl) ?_
            obtain rfl := Option.some.inj hr
            have st := st.front3
            have st := st.front3
            have st := st.front3
            have st := st.front3
            exact WO_env _ (by kernel_rfl) (K _ _ ⟨m19, rfl, hm, st, r3, r4, r5, r6⟩)
          · rw [if_neg (not_true hc)] at hr
            refine WO_fact (t := 83) (b := false) (y8.2.2 != 0) (by kernel_rfl) hc ?_
            refine WO_seg 4 [(87, .bool (y9.2.2 != 0))] (by kernel_rfl) (by kernel_rfl) ?_
            rcases bcases (y9.2.2 != 0) with hc | hc
            · rw [if_pos hc] at hr
              refine WO_fact (t := 87) (b := true) (y9.2.2 != 0) (by kernel_rfl) hc ?_
              refine WO_seg 28 [(115, .bool true)] (by kernel_rfl) (by kernel_rfl) ?_
              obtain rfl := Option.some.inj hr
              have st := st.front3
              have st := st.front3
              have st := st.front3
              have st := st.front3
              exact WO_env _ (by kernel_rfl) (K _ _ ⟨m19, rfl, hm, st, r3, r4, r5, r6⟩)
            · rw [if_neg (not_true hc)] at hr
              refine WO_fact (t := 87) (b := false) (y9.2.2 != 0) (by kernel_rfl) hc ?_
              refine WO_seg 4 [(91, .bool (y10.2.2 != 0))] (by kernel_rfl) (by kernel_rfl) ?_
              rcases bcases (y10.2.2 != 0) with hc | hc
              · rw [if_pos hc] at hr
                refine WO_fact (t := 91) (b := true) (y10.2.2 != 0) (by kernel_rfl) hc ?_
                refine WO_seg 24 [(115, .bool true)] (by kernel_rfl) (by kernel_rfl) ?_
                obtain rfl := Option.some.inj hr
                have st := st.front3
                have st := st.front3
                have st := st.front3
                have st := st.front3
                exact WO_env _ (by kernel_rfl) (K _ _ ⟨m19, rfl, hm, st, r3, r4, r5, r6⟩)
              · rw [if_neg (not_true hc)] at hr
                refine WO_fact (t := 91) (b := false) (y10.2.2 != 0) (by kernel_rfl) hc ?_
                refine WO_seg 3 [(92, .int .u64 y8.1), (93, .slice a4 (List.length o1.2.1) c4), (94, .int .i64 s2.2)] (by kernel_rfl) (by kernel_rfl) ?_
                obtain ⟨x1, hx14, hr⟩ := bindS hr
                refine WO_one rfl (One_index (d := 95) (t := 80) (e := 69) (x := (.tmp 93)) (y := (.tmp 94)) (cInt .u64) (by kernel_rfl) rfl (show evL _ _ = some (.slice a4 (List.length o1.2.1) c4) from (by kernel_rfl)) (show evL _ _ = some (.int .i64 s2.2) from (by kernel_rfl)) (by kernel_rfl) r4 hx14 ?_)
                rintro b4 f1 cs1 rfl hq1
                refine WO_one rfl (One_load_row (d := 96) (t := 69) (x := (.tmp 95)) (.int .u64 x1) (by kernel_rfl) rfl (show evL _ _ = some (.pointer (some ⟨b4, f1, none⟩)) from (by kernel_rfl)) st hq1 (by kernel_rfl) ?_)
                refine WO_seg 3 [(99, .bool (y8.1 != x1))] (by kernel_rfl) (by kernel_rfl) ?_
                rcases bcases (y8.1 != x1) with hc | hc
                · rw [if_pos hc] at hr
                  refine WO_fact (t := 99) (b := true) (y8.1 != x1) (by kernel_rfl) hc ?_
                  refine WO_seg 16 [(115, .bool true)] (by kernel_rfl) (by kernel_rfl) ?_
                  obtain rfl := Option.some.inj hr
                  have st := st.front3
                  have st := st.front3
                  have st := st.front3
                  have st := st.front3
                  exact WO_env _ (by kernel_rfl) (K _ _ ⟨m19, rfl, hm, st, r3, r4, r5, r6⟩)
                · rw [if_neg (not_true hc)] at hr
                  refine WO_fact (t := 99) (b := false) (y8.1 != x1) (by kernel_rfl) hc ?_
                  refine WO_seg 3 [(100, .int .i64 y9.1), (101, .slice a4 (List.length o1.2.1) c4), (102, .int .i64 s2.2)] (by kernel_rfl) (by kernel_rfl) ?_
                  obtain ⟨x2, hx15, hr⟩ := bindS hr
                  refine WO_one rfl (One_index (d := 103) (t := 80) (e := 69) (x := (.tmp 101)) (y := (.tmp 102)) (cInt .u64) (by kernel_rfl) rfl (show evL _ _ = some (.slice a4 (List.length o1.2.1) c4) from (by kernel_rfl)) (show evL _ _ = some (.int .i64 s2.2) from (by kernel_rfl)) (by kernel_rfl) r4 hx15 ?_)
                  rintro b5 f2 cs2 rfl hq2
                  refine WO_one rfl (One_load_row (d := 104) (t := 69) (x := (.tmp 103)) (.int .u64 x2) (by kernel_rfl) rfl (show evL _ _ = some (.pointer (some ⟨b5, f2, none⟩)) from (by kernel_rfl)) st hq2 (by kernel_rfl) ?_)
                  refine WO_seg 4 [(108, .bool (y9.1 != (IntKind.wrap .i64 x2)))] (by kernel_rfl) (by kernel_rfl) ?_
                  rcases bcases (y9.1 != (IntKind.wrap .i64 x2)) with hc | hc
                  · rw [if_pos hc] at hr
                    refine WO_fact (t := 108) (b := true) (y9.1 != (IntKind.wrap .i64 x2)) (by kernel_rfl) hc ?_
                    refine WO_seg 7 [(115, .bool true)] (by kernel_rfl) (by kernel_rfl) ?_
                    obtain rfl := Option.some.inj hr
                    have st := st.front3
                    have st := st.front3
                    have st := st.front3
                    have st := st.front3
                    exact WO_env _ (by kernel_rfl) (K _ _ ⟨m19, rfl, hm, st, r3, r4, r5, r6⟩)
                  · rw [if_neg (not_true hc)] at hr
                    refine WO_fact (t := 108) (b := false) (y9.1 != (IntKind.wrap .i64 x2)) (by kernel_rfl) hc ?_
                    refine WO_seg 3 [(109, .string y10.1), (110, .slice a5 (List.length o1.2.2.1) c5), (111, .int .i64 s2.2)] (by kernel_rfl) (by kernel_rfl) ?_
                    obtain ⟨x3, hx16, hr⟩ := bindS hr
                    refine WO_one rfl (One_index (d := 112) (t := 22) (e := 9) (x := (.tmp 110)) (y := (.tmp 111)) cStr (by kernel_rfl) rfl (show evL _ _ = some (.slice a5 (List.length o1.2.2.1) c5) from (by kernel_rfl)) (show evL _ _ = some (.int .i64 s2.2) from (by kernel_rfl)) (by kernel_rfl) r5 hx16 ?_)
                    rintro b6 f3 cs3 rfl hq3
                    refine WO_one rfl (One_load_row (d := 113) (t := 9) (x := (.tmp 112)) (.string x3) (by kernel_rfl) rfl (show evL _ _ = some (.pointer (some ⟨b6, f3, none⟩)) from (by kernel_rfl)) st hq3 (by kernel_rfl) ?_)
                    refine WO_seg 2 [(115, .bool (!(y10.1.toList == x3.toList)))] (by kernel_rfl) (by kernel_rfl) ?_
                    obtain rfl := Option.some.inj hr
                    have st := st.front3
                    have st := st.front3
                    have st := st.front3
                    have st := st.front3
                    exact WO_env _ (by kernel_rfl) (K _ _ ⟨m19, rfl, hm, st, r3, r4, r5, r6⟩)
      · intro hc
        rw [if_neg (not_true hc)] at hr
        refine W_exit ?_
        refine X_then_exit ?_
        obtain rfl := Option.some.inj hr
        have ho := hBu2 _ rfl
        have st := st.front3
        have st := st.front3
        have st := st.front3
        have st := st.front3
        refine X_then_exit ?_
        exact X_env _ (by kernel_rfl) (K2_u2 _ _ ⟨s2.1, m16, ho, rfl, hm, st, r3, r6⟩)
  intro K0_u1
  clear hrKu1
  have st := st.nilroom 5 1
  have st := st.nilroom 69 1
  have st := st.nilroom 9 1
  have st := st.front1
  have st := st.front2
  have st := st.front3
  refine W_env _ (by kernel_rfl) (W_loop (fun k1 L' w' => ∃ (s1 : List (UInt8) × List (Int) × List (ByteArray) × Int × List (Int) × Int) (a7 : Option Addr) (c7 : Nat) (a8 : Option Addr) (c8 : Nat) (a9 : Option Addr) (c9 : Nat) (a10 : Option Addr) (c10 : Nat) (m4 : Mem), loopM (testgatelaw03_WireBack_L1 N p1) k1 s1 = some out1 ∧ L' = [(1, .int .u64 p1), (5, .pointer (some ⟨b1, 0, none⟩)), (6, .slice a7 (List.length s1.1) c7), (7, .slice a8 (List.length s1.2.1) c8), (8, .slice a9 (List.length s1.2.2.1) c9), (9, .int .i64 s1.2.2.2.1)] ∧ m.le m4 ∧ St m4 (.blk b1 (.cells #[.slice a10 (List.length s1.2.2.2.2.1) c10, .int .i64 s1.2.2.2.2.2] 35 (0, 0)) :: .room a7 (List.length s1.1) c7 5 1 :: .room a8 (List.length s1.2.1) c8 69 1 :: .room a9 (List.length s1.2.2.1) c9 9 1 :: own) w' ∧ RepS cU8 m4 a7 c7 s1.1 ∧ RepS (cInt .u64) m4 a8 c8 s1.2.1 ∧ RepS cStr m4 a9 c9 s1.2.2.1 ∧ RepS (cInt .i64) m4 a10 c10 s1.2.2.2.2.1) N ⟨(([] : List (UInt8)), ([] : List (Int)), ([] : List (ByteArray)), y1.2, y1.1.1, y1.1.2), none, 0, none, 0, none, 0, a2, c2, m2, hr, rfl, hm, st, (RepS.nil _ _), (RepS.nil _ _), (RepS.nil _ _), r2⟩ ?_)
  clear st hr
  rintro k1 _ w4 ⟨s1, a7, c7, a8, c8, a9, c9, a10, c10, m4, hL, rfl, hm, st, r7, r8, r9, r10⟩
  rcases k1 with _ | k1
  · exact loopM_zero hL
  · obtain ⟨qu1, hr, hSu1, hBu1⟩ := loopM_succ hL
    clear hL
    unfold testgatelaw03_WireBack_L1 at hr
    refine W_seq ?_
    refine W_seq ?_
    refine W_region ?_
    refine WO_seg 2 [(27, .bool (decide (s1.2.2.2.1 > 0)))] (by kernel_rfl) (by kernel_rfl) ?_
    refine WO_end rfl ?_
    refine X_then ?_
    refine W_cond (decide (s1.2.2.2.1 > 0)) (by kernel_rfl) ?_ ?_
    · intro hc
      rw [if_pos hc] at hr
      refine W_skip ?_
      refine X_then ?_
      refine W_seq ?_
      refine W_block ?_
      refine W_seq ?_
      refine W_region ?_
      refine WO_seg 2 [(30, .int .u64 p1), (31, .pointer (some ⟨b1, 0, none⟩))] (by kernel_rfl) (by kernel_rfl) ?_
      obtain ⟨y2, hx2, hr⟩ := bindS hr
      refine WO_one rfl (One_fn 32 25 #[.pointer (some ⟨b1, 0, none⟩), .int .i64 64] (by kernel_rfl) rfl ?_)
      refine (testgatemake_Tape_Next_ok st r10 hx2).mono ?_
      clear st
      rintro _ w5 ⟨a11, c11, m5, rfl, hle3, st, r11⟩
      refine ⟨_, rfl, ?_⟩
      have hm := Mem.le_trans hm hle3
      have r7 := r7.mono hle3
      have r8 := r8.mono hle3
      have r9 := r9.mono hle3
      have r10 := r10.mono hle3
      refine WO_seg 1 [(33, .int .u64 (IntKind.wrap .u64 y2.2))] (by kernel_rfl) (by kernel_rfl) ?_
      obtain ⟨i1, hx3, hr⟩ := bindS hr
      refine WO_one rfl (One_shr (d := 34) (t := 69) (t2 := 81) (x := (.tmp 30)) (y := (.tmp 33)) (by kernel_rfl) rfl (show evL _ _ = some (.int .u64 p1) from (by kernel_rfl)) (show evL _ _ = some (.int .u64 (IntKind.wrap .u64 y2.2)) from (by kernel_rfl)) hx3 ?_)
      refine WO_seg 1 [(10, .int .u64 i1)] (by kernel_rfl) (by kernel_rfl) ?_
      refine WO_end rfl ?_
      refine X_then ?_
      refine W_seq ?_
      refine W_region ?_
      refine WO_seg 2 [(35, .pointer (some ⟨b1, 0, none⟩)), (36, .pointer (some ⟨b1, 0, none⟩))] (by kernel_rfl) (by kernel_rfl) ?_
      obtain ⟨y3, hx4, hr⟩ := bindS hr
      refine WO_one rfl (One_fn 37 25 #[.pointer (some ⟨b1, 0, none⟩), .int .i64 20] (by kernel_rfl) rfl ?_)
      refine (testgatemake_Tape_Next_ok st r11 hx4).mono ?_
      clear st
      rintro _ w6 ⟨a12, c12, m6, rfl, hle4, st, r12⟩
      refine ⟨_, rfl, ?_⟩
      have hm := Mem.le_trans hm hle4
      have r7 := r7.mono hle4
      have r8 := r8.mono hle4
      have r9 := r9.mono hle4
      have r11 := r11.mono hle4
      obtain ⟨y4, hx5, hr⟩ := bindS hr
      refine WO_one rfl (One_fn 38 55 #[.pointer (some ⟨b1, 0, none⟩), .int .i64 y3.2, .string (⟨#[97, 98, 247, 0]⟩ : ByteArray)] (by kernel_rfl) rfl ?_)
      refine (testgatemake_Tape_Text_ok st r12 hx5).mono ?_
      clear st
      rintro _ w7 ⟨a13, c13, m7, rfl, hle5, st, r13⟩
      refine ⟨_, rfl, ?_⟩
      have hm := Mem.le_trans hm hle5
      have r7 := r7.mono hle5
      have r8 := r8.mono hle5
      have r9 := r9.mono hle5
      have r12 := r12.mono hle5
      refine WO_seg 1 [(11, .string y4.2)] (by kernel_rfl) (by kernel_rfl) ?_
      refine WO_end rfl ?_
      refine X_then ?_
      refine W_seq ?_
      refine W_region ?_
      refine WO_seg 2 [(39, .slice a8 (List.length s1.2.1) c8), (40, .int .u64 i1)] (by kernel_rfl) (by kernel_rfl) ?_
      refine WO_one rfl (One_buildSlice (d := 41) (t := 80) (e := 69) (len := 1) (parts := #[(0, (.tmp 40))]) (cInt .u64) (xs := [i1]) [.int .u64 i1] (by kernel_rfl) rfl (fun _ => buildCells_run (by kernel_rfl) _) rfl rfl st ⟨[.int .u64 i1], _, rfl, rfl, rfl⟩ ?_)
      clear st
      intro b2 m8 w8 hle6 st r14
      have hm := Mem.le_trans hm hle6
      have r7 := r7.mono hle6
      have r8 := r8.mono hle6
      have r9 := r9.mono hle6
      have r13 := r13.mono hle6
      have st := st.front3
      obtain ⟨l1, hx6, hr⟩ := bindS hr
      refine WO_one rfl (One_append (d := 42) (t := 80) (u := 80) (e := 69) (by_ := 8) (x := (.tmp 39)) (y := (.tmp 41)) (cInt .u64) (by kernel_rfl) rfl (show evL _ _ = some (.slice a8 (List.length s1.2.1) c8) from (by kernel_rfl)) (show evL _ _ = some (.slice (some ⟨b2, 0, none⟩) (List.length ([i1])) 1) from (by kernel_rfl)) st (by kernel_rfl) (.inl (by kernel_rfl)) r8 r14.src hx6 ?_)
      clear st
      intro a14 c14 m9 w9 hle7 st r15
      have hm := Mem.le_trans hm hle7
      have r7 := r7.mono hle7
      have r8 := r8.mono hle7
      have r9 := r9.mono hle7
      have r14 := r14.mono hle7
      have r13 := r13.mono hle7
      refine WO_seg 2 [(43, .slice a9 (List.length s1.2.2.1) c9), (44, .string y4.2)] (by kernel_rfl) (by kernel_rfl) ?_
      refine WO_one rfl (One_buildSlice (d := 45) (t := 22) (e := 9) (len := 1) (parts := #[(0, (.tmp 44))]) cStr (xs := [y4.2]) [.string y4.2] (by kernel_rfl) rfl (fun _ => buildCells_run (by kernel_rfl) _) rfl rfl st ⟨[.string y4.2], _, rfl, rfl, rfl⟩ ?_)
      clear st
      intro b3 m10 w10 hle8 st r16
      have hm := Mem.le_trans hm hle8
      have r7 := r7.mono hle8
      have r8 := r8.mono hle8
      have r9 := r9.mono hle8
      have r14 := r14.mono hle8
      have r15 := r15.mono hle8
      have r13 := r13.mono hle8
      have st := st.front5
      obtain ⟨l2, hx7, hr⟩ := bindS hr
      refine WO_one rfl (One_append (d := 46) (t := 22) (u := 22) (e := 9) (by_ := 16) (x := (.tmp 43)) (y := (.tmp 45)) cStr (by kernel_rfl) rfl (show evL _ _ = some (.slice a9 (List.length s1.2.2.1) c9) from (by kernel_rfl)) (show evL _ _ = some (.slice (some ⟨b3, 0, none⟩) (List.length ([y4.2])) 1) from (by kernel_rfl)) st (by kernel_rfl) (.inl (by kernel_rfl)) r9 r16.src hx7 ?_)
      clear st
      intro a15 c15 m11 w11 hle9 st r17
      have hm := Mem.le_trans hm hle9
      have r7 := r7.mono hle9
      have r8 := r8.mono hle9
      have r9 := r9.mono hle9
      have r14 := r14.mono hle9
      have r15 := r15.mono hle9
      have r16 := r16.mono hle9
      have r13 := r13.mono hle9
      refine WO_seg 2 [(7, .slice a14 (List.length l1) c14), (8, .slice a15 (List.length l2) c15)] (by kernel_rfl) (by kernel_rfl) ?_
      refine WO_end rfl ?_
      refine X_then ?_
      refine W_region ?_
      refine WO_seg 2 [(47, .slice a7 (List.length s1.1) c7), (48, .int .u64 i1)] (by kernel_rfl) (by kernel_rfl) ?_
      obtain ⟨y5, hx8, hr⟩ := bindS hr
      refine WO_one rfl (One_fn 49 45 #[.slice a7 (List.length s1.1) c7, .int .u64 i1] (by kernel_rfl) rfl ?_)
      refine (wire_PutUint_ok st r7 hx8).mono ?_
      clear st
      rintro _ w12 ⟨a16, c16, m12, rfl, hle10, st, r18⟩
      refine ⟨_, rfl, ?_⟩
      have hm := Mem.le_trans hm hle10
      have r7 := r7.mono hle10
      have r15 := r15.mono hle10
      have r17 := r17.mono hle10
      have r13 := r13.mono hle10
      refine WO_seg 2 [(51, .int .i64 (IntKind.wrap .i64 i1))] (by kernel_rfl) (by kernel_rfl) ?_
      obtain ⟨y6, hx9, hr⟩ := bindS hr
      refine WO_one rfl (One_fn 52 44 #[.slice a16 (List.length y5) c16, .int .i64 (IntKind.wrap .i64 i1)] (by kernel_rfl) rfl ?_)
      refine (wire_PutInt_ok st r18 hx9).mono ?_
      clear st
      rintro _ w13 ⟨a17, c17, m13, rfl, hle11, st, r19⟩
      refine ⟨_, rfl, ?_⟩
      have hm := Mem.le_trans hm hle11
      have r7 := r7.mono hle11
      have r15 := r15.mono hle11
      have r17 := r17.mono hle11
      have r18 := r18.mono hle11
      have r13 := r13.mono hle11
      refine WO_seg 1 [(53, .string y4.2)] (by kernel_rfl) (by kernel_rfl) ?_
      obtain ⟨y7, hx10, hr⟩ := bindS hr
      refine WO_one rfl (One_fn 54 43 #[.slice a17 (List.length y6) c17, .string y4.2] (by kernel_rfl) rfl ?_)
      refine (wire_PutText_ok st r19 hx10).mono ?_
      clear st
      rintro _ w14 ⟨a18, c18, m14, rfl, hle12, st, r20⟩
      refine ⟨_, rfl, ?_⟩
      have hm := Mem.le_trans hm hle12
      have r7 := r7.mono hle12
      have r15 := r15.mono hle12
      have r17 := r17.mono hle12
      have r18 := r18.mono hle12
      have r19 := r19.mono hle12
      have r13 := r13.mono hle12
      refine WO_seg 1 [(6, .slice a18 (List.length y7) c18)] (by kernel_rfl) (by kernel_rfl) ?_
      refine WO_end rfl ?_
      refine X_block ?_
      refine X_then ?_
      refine W_region ?_
      refine WO_seg 3 [(9, .int .i64 (IntKind.wrap .i64 (s1.2.2.2.1 - 1)))] (by kernel_rfl) (by kernel_rfl) ?_
      refine WO_end rfl ?_
      obtain rfl := Option.some.inj hr
      have hL := hSu1 _ rfl
      have st := st.front1
      have st := st.tail
      have st := st.front1
      have st := st.tail
      have st := st.front2
      have st := st.tail
      have st := st.front3
      have st := st.tail
      have st := st.front4
      have st := st.tail
      have st := st.front1
      have st := st.front2
      have st := st.front2
      have st := st.front3
      exact X_env _ (by kernel_rfl) (X_round k1 (Nat.lt_succ_self _) ⟨(y7, l1, l2, IntKind.wrap .i64 (s1.2.2.2.1 - 1), y4.1.1, y4.1.2), a18, c18, a14, c14, a15, c15, a13, c13, m14, hL, rfl, hm, st, r20, r15, r17, r13⟩)
    · intro hc
      rw [if_neg (not_true hc)] at hr
      refine W_exit ?_
      refine X_then_exit ?_
      obtain rfl := Option.some.inj hr
      have ho := hBu1 _ rfl
      have st := st.front3
      have st := st.front3
      have st := st.front3
      have st := st.front3
      refine X_then_exit ?_
      exact X_env _ (by kernel_rfl) (K0_u1 _ _ ⟨(s1.1, s1.2.1, s1.2.2.1, s1.2.2.2.2.1, s1.2.2.2.2.2), a7, c7, a8, c8, a9, c9, a10, c10, m4, ho, rfl, hm, st, r7, r8, r9, r10⟩)

end Go.Proofs.Ytgkjigejejofkaa
