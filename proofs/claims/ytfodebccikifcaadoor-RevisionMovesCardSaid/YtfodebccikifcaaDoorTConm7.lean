/- MADE BY gen.py: plain functions and the proofs that the Go functions compute them. No condition but those of each theorem. -/
import Derived.Test.YtfodebccikifcaaDoorProg
import Derived.Test.YtfodebccikifcaaDoorIns
import Derived.Test.YtfodebccikifcaaDoorTConm7C
namespace Go.Proofs.YtfodebccikifcaaDoor
open Go Go.Dc

def revision_Decode_L1 (N : Nat) (l1 : List (Int × List UInt8)) (s1 : Int × (List (ByteArray × ByteArray))) : Option ((Int × (List (ByteArray × ByteArray))) ⊕ (((List (ByteArray × ByteArray))) ⊕ (((List (ByteArray × ByteArray))) × Int))) :=
 if (decide (s1.1 < (List.length l1 : Int))) = true then ((idx l1 s1.1).bind fun x2 => (revision_payload_text N (x2.2, 0, false)).bind fun y2 => (revision_payload_text N (y2.1.1, y2.1.2.1, y2.1.2.2)).bind fun y3 => (appendS 32 s1.2 ([(y2.2, y3.2)])).bind fun l2 => (if (x2.1 != 1) = true then (some (true, y3.1.1, y3.1.2.1, y3.1.2.2)) else ((revision_payload_end N (y3.1.1, y3.1.2.1, y3.1.2.2)).bind fun y4 => some (!y4.2, y4.1.1, y4.1.2.1, y4.1.2.2)) : Option (Bool × List (UInt8) × Int × Bool)).bind fun o3 => if o3.1 = true then (some (.inr (.inr ((([] : List (ByteArray × ByteArray)), 6))))) else (some (.inl (IntKind.wrap .i64 (s1.1 + 1), l2)))) else (some (.inr (.inl s1.2)))

def revision_Decode (N : Nat) (p0 : List UInt8) : Option (((List (ByteArray × ByteArray))) × Int) :=
 (wire_Frames N p0).bind fun y1 => if (y1.2.2 != 0) = true then (some (([] : List (ByteArray × ByteArray)), y1.2.2)) else ((if (decide ((IntKind.wrap .i64 ((List.length y1.1 : Int) - 1)) < 0)) = true then (some true) else ((idx y1.1 (IntKind.wrap .i64 ((List.length y1.1 : Int) - 1))).bind fun x1 => some (x1.1 != 2)) : Option (Bool)).bind fun o1 => if o1 = true then (some (([] : List (ByteArray × ByteArray)), 7)) else ((subS y1.1 0 (IntKind.wrap .i64 ((List.length y1.1 : Int) - 1))).bind fun l1 => (loopM (revision_Decode_L1 N l1) N (0, ([] : List (ByteArray × ByteArray)))).bind fun out1 => (match out1 with | .inl o2 => (idx y1.1 (IntKind.wrap .i64 ((List.length y1.1 : Int) - 1))).bind fun x3 => (revision_payload_number N (x3.2, 0, false)).bind fun y5 => ((revision_payload_end N (y5.1.1, y5.1.2.1, y5.1.2.2)).bind fun y6 => if (!y6.2) = true then (some (true, y6.1.1, y6.1.2.1, y6.1.2.2)) else (some (y5.2 != (IntKind.wrap .u64 (IntKind.wrap .i64 ((List.length y1.1 : Int) - 1))), y6.1.1, y6.1.2.1, y6.1.2.2)) : Option (Bool × List (UInt8) × Int × Bool)).bind fun o4 => if o4.1 = true then (some (([] : List (ByteArray × ByteArray)), 6)) else ((revision_Check N o2).bind fun y7 => if (y7 != 0) = true then (some (([] : List (ByteArray × ByteArray)), y7)) else (some (o2, 0))) | .inr (z) => some z)))

set_option maxHeartbeats 4000000 in
set_option maxRecDepth 100000 in
theorem revision_Decode_ok {N : Nat} {m : Mem} {own : List Piece} {w : World} {p0 : List UInt8} {a1 : Option Addr} {c1 : Nat} {r : ((List (ByteArray × ByteArray))) × Int} (st : St m (own) w) (r1 : RepS cU8 m a1 c1 p0) (hr : revision_Decode N p0 = some r) : Calls Go.Proofs.Tryd.prog 46 #[.slice a1 (List.length p0) c1] w fun e w' => ∃ (ra1 : Option Addr) (rc1 : Nat) (m' : Mem), e = .returned (.tuple #[.agg #[.slice ra1 (List.length r.1) rc1], .int .i64 r.2]) ∧ m.le m' ∧ St m' (.room ra1 (List.length r.1) rc1 66 2 :: own) w' ∧ RepS (cPair cStr cStr) m' ra1 rc1 r.1 := by
 unfold revision_Decode at hr
 have hm := m.le_refl
 refine W_calls Go.Proofs.Tryd.func46 rfl Go.Proofs.Tryd.ntmps46 [(0, .slice a1 (List.length p0) c1)] (by kernel_rfl) rfl ?_
 refine W_sr ?_
 refine WO_one rfl (One_alloc (d := 2) (e := 47) (.agg #[.slice none 0 0]) (by kernel_rfl) rfl (by kernel_rfl) st ?_)
 clear st
 intro b1 w1 st
 refine WO_seg 1 [] (by kernel_rfl) (by kernel_rfl) ?_
 refine WO_et rfl ?_
 refine W_sr ?_
 refine WO_seg 1 [(17, .slice a1 (List.length p0) c1)] (by kernel_rfl) (by kernel_rfl) ?_
 replace hr := bindS hr
 obtain ⟨y1, hx1, hr⟩ := hr
 refine WO_one rfl (One_fn 18 78 #[.slice a1 (List.length p0) c1] (by kernel_rfl) rfl ?_)
 refine (wire_Frames_ok st r1 hx1).mono ?_
 clear st
 rintro _ w2 ⟨a2, c2, m1, rfl, hle1, st, r2⟩
 refine ⟨_, rfl, ?_⟩
 have hm := Mem.le_trans hm hle1
 have r1 := r1.mono hle1
 refine WO_seg 7 [(4, .slice a2 (List.length y1.1) c2), (6, .int .i64 y1.2.2)] (by kernel_rfl) (by kernel_rfl) ?_
 refine WO_et rfl ?_
 refine W_seq ?_
 refine W_sr ?_
 refine WO_seg 2 [(23, .bool (y1.2.2 != 0))] (by kernel_rfl) (by kernel_rfl) ?_
 refine WO_et rfl ?_
 refine W_cond (y1.2.2 != 0) (by kernel_rfl) ?_ ?_
 ·intro hc
  rw [if_pos hc] at hr
  refine W_sr ?_
  refine WO_seg 2 [(24, .agg #[.slice none (List.length ([] : List (ByteArray × ByteArray))) 0]), (25, .int .i64 y1.2.2)] (by kernel_rfl) (by kernel_rfl) ?_
  have st := st.front1
  refine WO_one rfl (One_store (t := 47) (x := (.tmp 2)) (y := (.tmp 24)) (v := .agg #[.slice none (List.length ([] : List (ByteArray × ByteArray))) 0]) (c' := #[.slice none (List.length ([] : List (ByteArray × ByteArray))) 0]) (by kernel_rfl) (show evL _ _ = some (.pointer (some ⟨b1, 0, none⟩)) from (by kernel_rfl)) (show evL _ _ = some (.agg #[.slice none (List.length ([] : List (ByteArray × ByteArray))) 0]) from (by kernel_rfl)) st (by kernel_rfl) (by kernel_rfl) ?_)
  clear st
  intro w3 st
  refine WO_seg 1 [(3, .int .i64 y1.2.2)] (by kernel_rfl) (by kernel_rfl) ?_
  refine WO_end rfl ?_
  have st := st.front1
  have st := st.tail
  refine X_then ?_
  refine W_ret ?_
  refine X_then_ret ?_
  obtain rfl := Option.some.inj hr
  refine X_ret [.cell 2 47, .tmp 3] [.agg #[.slice none (List.length ([] : List (ByteArray × ByteArray))) 0], .int .i64 y1.2.2] rfl (ResAll.cons (ResAt.blk (v := .agg #[.slice none (List.length ([] : List (ByteArray × ByteArray))) 0]) (o := 0) (by kernel_rfl) st.head (by kernel_rfl)) (ResAll.cons (ResAt.tmp (by kernel_rfl)) ResAll.nil)) ?_
  have st := st.nilroom 66 2
  have st := st.front1
  have st := st.tail
  exact ⟨none, 0, m1, rfl, hm, st, (RepS.nil _ _)⟩
 ·intro hc
  rw [if_neg (not_true hc)] at hr
  refine W_skip ?_
  refine X_then ?_
  refine W_sr ?_
  refine WO_seg 4 [(7, .int .i64 (IntKind.wrap .i64 ((List.length y1.1 : Int) - 1)))] (by kernel_rfl) (by kernel_rfl) ?_
  refine WO_et rfl ?_
  refine W_seq ?_
  refine W_sr ?_
  replace hr := bindS hr
  obtain ⟨o1, hr, hrK⟩ := hr
  refine WO_cut (j := 10) (fun L' w' => ∃ (m2 : Mem), L' = [(2, .pointer (some ⟨b1, 0, none⟩)), (4, .slice a2 (List.length y1.1) c2), (7, .int .i64 (IntKind.wrap .i64 ((List.length y1.1 : Int) - 1))), (38, .bool o1)] ∧ m.le m2 ∧ St m2 (.blk b1 (.cells #[.slice none (List.length ([] : List (ByteArray × ByteArray))) 0] 47 (0, 0)) :: .room a2 (List.length y1.1) c2 86 2 :: own) w' ∧ RepS (cPair (cInt .i64) (cSl cU8)) m2 a2 c2 y1.1) ?_ ?_
  ·clear hr st
   have hr := hrK
   clear hrK
   rintro _ w4 ⟨m2, rfl, hm, st, r2⟩
   refine WO_et rfl ?_
   refine W_cond o1 (by kernel_rfl) ?_ ?_
   ·intro hc
    rw [if_pos hc] at hr
    refine W_sr ?_
    refine WO_seg 1 [(39, .agg #[.slice none (List.length ([] : List (ByteArray × ByteArray))) 0])] (by kernel_rfl) (by kernel_rfl) ?_
    refine WO_one rfl (One_store (t := 47) (x := (.tmp 2)) (y := (.tmp 39)) (v := .agg #[.slice none (List.length ([] : List (ByteArray × ByteArray))) 0]) (c' := #[.slice none (List.length ([] : List (ByteArray × ByteArray))) 0]) (by kernel_rfl) (show evL _ _ = some (.pointer (some ⟨b1, 0, none⟩)) from (by kernel_rfl)) (show evL _ _ = some (.agg #[.slice none (List.length ([] : List (ByteArray × ByteArray))) 0]) from (by kernel_rfl)) st (by kernel_rfl) (by kernel_rfl) ?_)
    clear st
    intro w5 st
    refine WO_seg 1 [(3, .int .i64 7)] (by kernel_rfl) (by kernel_rfl) ?_
    refine WO_end rfl ?_
    have st := st.front1
    have st := st.tail
    refine X_then ?_
    refine W_ret ?_
    refine X_then_ret ?_
    obtain rfl := Option.some.inj hr
    refine X_ret [.cell 2 47, .tmp 3] [.agg #[.slice none (List.length ([] : List (ByteArray × ByteArray))) 0], .int .i64 7] rfl (ResAll.cons (ResAt.blk (v := .agg #[.slice none (List.length ([] : List (ByteArray × ByteArray))) 0]) (o := 0) (by kernel_rfl) st.head (by kernel_rfl)) (ResAll.cons (ResAt.tmp (by kernel_rfl)) ResAll.nil)) ?_
    have st := st.nilroom 66 2
    have st := st.front1
    have st := st.tail
    exact ⟨none, 0, m2, rfl, hm, st, (RepS.nil _ _)⟩
   ·intro hc
    rw [if_neg (not_true hc)] at hr
    refine W_skip ?_
    refine X_then ?_
    refine W_sr ?_
    refine WO_one rfl (One_alloc (d := 8) (e := 47) (.agg #[.slice none 0 0]) (by kernel_rfl) rfl (by kernel_rfl) st ?_)
    clear st
    intro b3 w6 st
    refine WO_et rfl ?_
    refine W_seq ?_
    refine W_sr ?_
    refine WO_seg 2 [(40, .slice a2 (List.length y1.1) c2), (41, .int .i64 (IntKind.wrap .i64 ((List.length y1.1 : Int) - 1)))] (by kernel_rfl) (by kernel_rfl) ?_
    replace hr := bindS hr
    obtain ⟨l1, hx3, hr⟩ := hr
    refine WO_one rfl (One_slice (d := 42) (t := 94) (e := 86) (x := (.tmp 40)) (lo := none) (hi := (some (.tmp 41))) (cPair (cInt .i64) (cSl cU8)) (by kernel_rfl) rfl (show evL _ _ = some (.slice a2 (List.length y1.1) c2) from (by kernel_rfl)) (by kernel_rfl) r2 (.inl ⟨rfl, rfl⟩) (.inr ⟨_, _, rfl, (show evL _ _ = some (.int .i64 (IntKind.wrap .i64 ((List.length y1.1 : Int) - 1))) from (by kernel_rfl))⟩) hx3 ?_)
    intro a4 c4 r4
    refine WO_seg 2 [(43, .int .i64 (List.length l1 : Int)), (44, .int .i64 0)] (by kernel_rfl) (by kernel_rfl) ?_
    refine WO_et rfl ?_
    refine W_block ?_
    replace hr := bindS hr
    obtain ⟨out1, hr, hrKu1⟩ := hr
    refine W_cut (.exit 0) (fun L' w' => ∃ (o2 : (List (ByteArray × ByteArray))) (a5 : Option Addr) (c5 : Nat) (m3 : Mem), (.inl o2) = out1 ∧ L' = [(2, .pointer (some ⟨b1, 0, none⟩)), (4, .slice a2 (List.length y1.1) c2), (7, .int .i64 (IntKind.wrap .i64 ((List.length y1.1 : Int) - 1))), (8, .pointer (some ⟨b3, 0, none⟩))] ∧ m.le m3 ∧ St m3 (.blk b3 (.cells #[.slice a5 (List.length o2) c5] 47 (0, 0)) :: .blk b1 (.cells #[.slice none (List.length ([] : List (ByteArray × ByteArray))) 0] 47 (0, 0)) :: .room a2 (List.length y1.1) c2 86 2 :: .room a5 (List.length o2) c5 66 2 :: own) w' ∧ RepS (cPair (cInt .i64) (cSl cU8)) m3 a2 c2 y1.1 ∧ RepS (cPair cStr cStr) m3 a5 c5 o2) ?_ ?_
    ·clear hr st
     rintro _ w7 ⟨o2, a5, c5, m3, rfl, rfl, hm, st, r2, r5⟩
     have hr := hrKu1
     clear hrKu1
     dsimp only at hr
     refine X_block_eq ?_
     refine X_then ?_
     refine W_sr ?_
     refine WO_seg 2 [(74, .slice a2 (List.length y1.1) c2), (75, .int .i64 (IntKind.wrap .i64 ((List.length y1.1 : Int) - 1)))] (by kernel_rfl) (by kernel_rfl) ?_
     replace hr := bindS hr
     obtain ⟨x3, hx9, hr⟩ := hr
     refine WO_one rfl (One_index (d := 76) (t := 94) (e := 86) (x := (.tmp 74)) (y := (.tmp 75)) (cPair (cInt .i64) (cSl cU8)) (by kernel_rfl) rfl (show evL _ _ = some (.slice a2 (List.length y1.1) c2) from (by kernel_rfl)) (show evL _ _ = some (.int .i64 (IntKind.wrap .i64 ((List.length y1.1 : Int) - 1))) from (by kernel_rfl)) (by kernel_rfl) r2 hx9 ?_)
     rintro b8 f3 cs3 ⟨_, _, rfl, rfl, ⟨a13, c13, rfl, r14⟩⟩ hq3
     refine WO_seg 1 [(77, .pointer (some ⟨b8, f3 + 1, none⟩))] (by kernel_rfl) (by kernel_rfl) ?_
     refine WO_one rfl (One_load_row (d := 78) (t := 43) (x := (.tmp 77)) (.slice a13 (List.length x3.2) c13) (by kernel_rfl) rfl (show evL _ _ = some (.pointer (some ⟨b8, f3 + 1, none⟩)) from (by kernel_rfl)) st (hq3.drop 1) (by kernel_rfl) ?_)
     refine WO_seg 1 [(79, .agg #[.slice a13 (List.length x3.2) c13, .int .i64 0, .bool false])] (by kernel_rfl) (by kernel_rfl) ?_
     refine WO_one rfl (One_box_own (d := 80) (e := 99) (x := (.tmp 79)) (.agg #[.slice a13 (List.length x3.2) c13, .int .i64 0, .bool false]) (by kernel_rfl) rfl (by kernel_rfl) st ?_)
     clear st
     intro b9 w21 st
     refine WO_seg 1 [(13, .pointer (some ⟨b9, 0, none⟩))] (by kernel_rfl) (by kernel_rfl) ?_
     refine WO_end rfl ?_
     have st := st.front3
     have st := st.tail
     refine X_then ?_
     refine W_seq ?_
     refine W_sr ?_
     refine WO_seg 1 [(81, .pointer (some ⟨b9, 0, none⟩))] (by kernel_rfl) (by kernel_rfl) ?_
     replace hr := bindS hr
     obtain ⟨y5, hx10, hr⟩ := hr
     refine WO_one rfl (One_fn 82 81 #[.pointer (some ⟨b9, 0, none⟩)] (by kernel_rfl) rfl ?_)
     refine (revision_payload_number_ok st r14 hx10).mono ?_
     clear st
     rintro _ w22 ⟨a14, c14, m13, rfl, hle9, st, r15⟩
     refine ⟨_, rfl, ?_⟩
     have hm := Mem.le_trans hm hle9
     have r14 := r14.mono hle9
     have r5 := r5.mono hle9
     refine WO_seg 1 [(14, .int .u64 y5.2)] (by kernel_rfl) (by kernel_rfl) ?_
     refine WO_et rfl ?_
     refine W_sr ?_
     replace hr := bindS hr
     obtain ⟨o4, hr, hrK⟩ := hr
     refine WO_cut (j := 9) (fun L' w' => ∃ (a15 : Option Addr) (c15 : Nat) (m14 : Mem), L' = [(2, .pointer (some ⟨b1, 0, none⟩)), (8, .pointer (some ⟨b3, 0, none⟩)), (91, .bool o4.1)] ∧ m.le m14 ∧ St m14 (.blk b9 (.cells #[.slice a15 (List.length o4.2.1) c15, .int .i64 o4.2.2.1, .bool o4.2.2.2] 99 (0, 0)) :: .blk b3 (.cells #[.slice a5 (List.length o2) c5] 47 (0, 0)) :: .blk b1 (.cells #[.slice none (List.length ([] : List (ByteArray × ByteArray))) 0] 47 (0, 0)) :: .room a5 (List.length o2) c5 66 2 :: own) w' ∧ RepS cU8 m14 a15 c15 o4.2.1 ∧ RepS (cPair cStr cStr) m14 a5 c5 o2) ?_ ?_
     ·clear hr st
      have hr := hrK
      clear hrK
      rintro _ w23 ⟨a15, c15, m14, rfl, hm, st, r16, r5⟩
      refine WO_et rfl ?_
      refine W_cond o4.1 (by kernel_rfl) ?_ ?_
      ·intro hc
       rw [if_pos hc] at hr
       refine W_sr ?_
       refine WO_seg 1 [(92, .agg #[.slice none (List.length ([] : List (ByteArray × ByteArray))) 0])] (by kernel_rfl) (by kernel_rfl) ?_
       have st := st.front2
       refine WO_one rfl (One_store (t := 47) (x := (.tmp 2)) (y := (.tmp 92)) (v := .agg #[.slice none (List.length ([] : List (ByteArray × ByteArray))) 0]) (c' := #[.slice none (List.length ([] : List (ByteArray × ByteArray))) 0]) (by kernel_rfl) (show evL _ _ = some (.pointer (some ⟨b1, 0, none⟩)) from (by kernel_rfl)) (show evL _ _ = some (.agg #[.slice none (List.length ([] : List (ByteArray × ByteArray))) 0]) from (by kernel_rfl)) st (by kernel_rfl) (by kernel_rfl) ?_)
       clear st
       intro w25 st
       refine WO_seg 1 [(3, .int .i64 6)] (by kernel_rfl) (by kernel_rfl) ?_
       refine WO_et rfl ?_
       refine W_ret ?_
       refine X_then_ret ?_
       obtain rfl := Option.some.inj hr
       refine X_ret [.cell 2 47, .tmp 3] [.agg #[.slice none (List.length ([] : List (ByteArray × ByteArray))) 0], .int .i64 6] rfl (ResAll.cons (ResAt.blk (v := .agg #[.slice none (List.length ([] : List (ByteArray × ByteArray))) 0]) (o := 0) (by kernel_rfl) st.head (by kernel_rfl)) (ResAll.cons (ResAt.tmp (by kernel_rfl)) ResAll.nil)) ?_
       have st := st.nilroom 66 2
       have st := st.front1
       have st := st.tail
       have st := st.front1
       have st := st.tail
       have st := st.front1
       have st := st.tail
       have st := st.front1
       have st := st.tail
       exact ⟨none, 0, m14, rfl, hm, st, (RepS.nil _ _)⟩
      ·intro hc
       rw [if_neg (not_true hc)] at hr
       refine W_skip ?_
       refine X_then ?_
       refine W_seq ?_
       refine W_sr ?_
       refine WO_one rfl (One_load_own (d := 93) (t := 47) (x := (.tmp 8)) (.agg #[.slice a5 (List.length o2) c5]) (by kernel_rfl) rfl (show evL _ _ = some (.pointer (some ⟨b3, 0, none⟩)) from (by kernel_rfl)) st.tail.head (by kernel_rfl) ?_)
       replace hr := bindS hr
       obtain ⟨y7, hx12, hr⟩ := hr
       refine WO_one rfl (One_fn 94 26 #[.agg #[.slice a5 (List.length o2) c5]] (by kernel_rfl) rfl ?_)
       refine (revision_Check_ok st r5 hx12).mono ?_
       clear st
       rintro _ w26 ⟨m16, rfl, hle11, st⟩
       refine ⟨_, rfl, ?_⟩
       have hm := Mem.le_trans hm hle11
       have r5 := r5.mono hle11
       have r16 := r16.mono hle11
       refine WO_seg 1 [(15, .int .i64 y7)] (by kernel_rfl) (by kernel_rfl) ?_
       refine WO_et rfl ?_
       refine W_sr ?_
       refine WO_seg 2 [(96, .bool (y7 != 0))] (by kernel_rfl) (by kernel_rfl) ?_
       refine WO_et rfl ?_
       refine W_cond (y7 != 0) (by kernel_rfl) ?_ ?_
       ·intro hc
        rw [if_pos hc] at hr
        refine W_sr ?_
        refine WO_seg 2 [(97, .agg #[.slice none (List.length ([] : List (ByteArray × ByteArray))) 0]), (98, .int .i64 y7)] (by kernel_rfl) (by kernel_rfl) ?_
        have st := st.front2
        refine WO_one rfl (One_store (t := 47) (x := (.tmp 2)) (y := (.tmp 97)) (v := .agg #[.slice none (List.length ([] : List (ByteArray × ByteArray))) 0]) (c' := #[.slice none (List.length ([] : List (ByteArray × ByteArray))) 0]) (by kernel_rfl) (show evL _ _ = some (.pointer (some ⟨b1, 0, none⟩)) from (by kernel_rfl)) (show evL _ _ = some (.agg #[.slice none (List.length ([] : List (ByteArray × ByteArray))) 0]) from (by kernel_rfl)) st (by kernel_rfl) (by kernel_rfl) ?_)
        clear st
        intro w27 st
        refine WO_seg 1 [(3, .int .i64 y7)] (by kernel_rfl) (by kernel_rfl) ?_
        refine WO_et rfl ?_
        refine W_ret ?_
        refine X_then_ret ?_
        obtain rfl := Option.some.inj hr
        refine X_ret [.cell 2 47, .tmp 3] [.agg #[.slice none (List.length ([] : List (ByteArray × ByteArray))) 0], .int .i64 y7] rfl (ResAll.cons (ResAt.blk (v := .agg #[.slice none (List.length ([] : List (ByteArray × ByteArray))) 0]) (o := 0) (by kernel_rfl) st.head (by kernel_rfl)) (ResAll.cons (ResAt.tmp (by kernel_rfl)) ResAll.nil)) ?_
        have st := st.nilroom 66 2
        have st := st.front1
        have st := st.tail
        have st := st.front1
        have st := st.tail
        have st := st.front1
        have st := st.tail
        have st := st.front1
        have st := st.tail
        exact ⟨none, 0, m16, rfl, hm, st, (RepS.nil _ _)⟩
       ·intro hc
        rw [if_neg (not_true hc)] at hr
        refine W_skip ?_
        refine X_then ?_
        refine W_sr ?_
        refine WO_one rfl (One_load_own (d := 99) (t := 47) (x := (.tmp 8)) (.agg #[.slice a5 (List.length o2) c5]) (by kernel_rfl) rfl (show evL _ _ = some (.pointer (some ⟨b3, 0, none⟩)) from (by kernel_rfl)) st.tail.head (by kernel_rfl) ?_)
        have st := st.front2
        refine WO_one rfl (One_store (t := 47) (x := (.tmp 2)) (y := (.tmp 99)) (v := .agg #[.slice a5 (List.length o2) c5]) (c' := #[.slice a5 (List.length o2) c5]) (by kernel_rfl) (show evL _ _ = some (.pointer (some ⟨b1, 0, none⟩)) from (by kernel_rfl)) (show evL _ _ = some (.agg #[.slice a5 (List.length o2) c5]) from (by kernel_rfl)) st (by kernel_rfl) (by kernel_rfl) ?_)
        clear st
        intro w28 st
        refine WO_seg 1 [(3, .int .i64 0)] (by kernel_rfl) (by kernel_rfl) ?_
        refine WO_et rfl ?_
        refine W_ret ?_
        obtain rfl := Option.some.inj hr
        refine X_ret [.cell 2 47, .tmp 3] [.agg #[.slice a5 (List.length o2) c5], .int .i64 0] rfl (ResAll.cons (ResAt.blk (v := .agg #[.slice a5 (List.length o2) c5]) (o := 0) (by kernel_rfl) st.head (by kernel_rfl)) (ResAll.cons (ResAt.tmp (by kernel_rfl)) ResAll.nil)) ?_
        have st := st.tail
        have st := st.tail
        have st := st.tail
        exact ⟨a5, c5, m16, rfl, hm, st, r5⟩
     ·intro K
      clear hrK
      refine WO_seg 1 [(83, .pointer (some ⟨b9, 0, none⟩))] (by kernel_rfl) (by kernel_rfl) ?_
      replace hr := bindS hr
      obtain ⟨y6, hx11, hr⟩ := hr
      refine WO_one rfl (One_fn 84 80 #[.pointer (some ⟨b9, 0, none⟩)] (by kernel_rfl) rfl ?_)
      refine (revision_payload_end_ok st r15 hx11).mono ?_
      clear st
      rintro _ w24 ⟨a16, c16, m15, rfl, hle10, st, r17⟩
      refine ⟨_, rfl, ?_⟩
      have hm := Mem.le_trans hm hle10
      have r15 := r15.mono hle10
      have r5 := r5.mono hle10
      refine WO_seg 2 [(86, .bool (!y6.2))] (by kernel_rfl) (by kernel_rfl) ?_
      rcases bcases (!y6.2) with hc | hc
      ·rw [if_pos hc] at hr
       refine WO_fact (t := 86) (b := true) (!y6.2) (by kernel_rfl) hc ?_
       refine WO_seg 5 [(91, .bool true)] (by kernel_rfl) (by kernel_rfl) ?_
       obtain rfl := Option.some.inj hr
       have st := st.front3
       have st := st.front3
       have st := st.front3
       have st := st.front3
       exact WO_env _ (by kernel_rfl) (K _ _ ⟨a16, c16, m15, rfl, hm, st, r17, r5⟩)
      ·rw [if_neg (not_true hc)] at hr
       refine WO_fact (t := 86) (b := false) (!y6.2) (by kernel_rfl) hc ?_
       refine WO_seg 5 [(91, .bool (y5.2 != (IntKind.wrap .u64 (IntKind.wrap .i64 ((List.length y1.1 : Int) - 1)))))] (by kernel_rfl) (by kernel_rfl) ?_
       obtain rfl := Option.some.inj hr
       have st := st.front3
       have st := st.front3
       have st := st.front3
       have st := st.front3
       exact WO_env _ (by kernel_rfl) (K _ _ ⟨a16, c16, m15, rfl, hm, st, r17, r5⟩)
    intro K0_u1
    have st := st.nilroom 66 2
    have st := st.front3
    have st := st.front3
    have st := st.front3
    refine W_env _ (by kernel_rfl) (W_loop (fun k1 L' w' => ∃ (s1 : Int × (List (ByteArray × ByteArray))) (a6 : Option Addr) (c6 : Nat) (m4 : Mem), loopM (revision_Decode_L1 N l1) k1 s1 = some out1 ∧ L' = [(2, .pointer (some ⟨b1, 0, none⟩)), (4, .slice a2 (List.length y1.1) c2), (7, .int .i64 (IntKind.wrap .i64 ((List.length y1.1 : Int) - 1))), (8, .pointer (some ⟨b3, 0, none⟩)), (42, .slice a4 (List.length l1) c4), (43, .int .i64 (List.length l1 : Int)), (44, .int .i64 s1.1)] ∧ m.le m4 ∧ St m4 (.blk b3 (.cells #[.slice a6 (List.length s1.2) c6] 47 (0, 0)) :: .blk b1 (.cells #[.slice none (List.length ([] : List (ByteArray × ByteArray))) 0] 47 (0, 0)) :: .room a2 (List.length y1.1) c2 86 2 :: .room a6 (List.length s1.2) c6 66 2 :: own) w' ∧ RepS (cPair (cInt .i64) (cSl cU8)) m4 a2 c2 y1.1 ∧ RepS (cPair (cInt .i64) (cSl cU8)) m4 a4 c4 l1 ∧ RepS (cPair cStr cStr) m4 a6 c6 s1.2) N ⟨(0, ([] : List (ByteArray × ByteArray))), none, 0, m2, hr, rfl, hm, st, r2, r4, (RepS.nil _ _)⟩ ?_)
    clear st hr
    rintro k1 _ w8 ⟨s1, a6, c6, m4, hL, rfl, hm, st, r2, r4, r6⟩
    rcases k1 with _ | k1
    ·exact loopM_zero hL
    ·obtain ⟨qu1, hr, hSu1, hBu1⟩ := loopM_succ hL
     clear hL
     unfold revision_Decode_L1 at hr
     refine W_sr ?_
     refine WO_seg 1 [(45, .bool (decide (s1.1 < (List.length l1 : Int))))] (by kernel_rfl) (by kernel_rfl) ?_
     refine WO_et rfl ?_
     refine W_seq ?_
     refine W_cond (decide (s1.1 < (List.length l1 : Int))) (by kernel_rfl) ?_ ?_
     ·intro hc
      rw [if_pos hc] at hr
      refine W_skip ?_
      refine X_then ?_
      refine W_seq ?_
      refine W_block ?_
      refine W_sr ?_
      replace hr := bindS hr
      obtain ⟨x2, hx4, hr⟩ := hr
      refine WO_one rfl (One_index (d := 46) (t := 94) (e := 86) (x := (.tmp 42)) (y := (.tmp 44)) (cPair (cInt .i64) (cSl cU8)) (by kernel_rfl) rfl (show evL _ _ = some (.slice a4 (List.length l1) c4) from (by kernel_rfl)) (show evL _ _ = some (.int .i64 s1.1) from (by kernel_rfl)) (by kernel_rfl) r4 hx4 ?_)
      rintro b4 f2 cs2 ⟨_, _, rfl, rfl, ⟨a7, c7, rfl, r7⟩⟩ hq2
      refine WO_one rfl (One_load_row (d := 47) (t := 86) (x := (.tmp 46)) (.agg #[.int .i64 x2.1, .slice a7 (List.length x2.2) c7]) (by kernel_rfl) rfl (show evL _ _ = some (.pointer (some ⟨b4, f2, none⟩)) from (by kernel_rfl)) st hq2 (by kernel_rfl) ?_)
      refine WO_one rfl (One_alloc (d := 10) (e := 86) (.agg #[.int .i64 0, .slice none 0 0]) (by kernel_rfl) rfl (by kernel_rfl) st ?_)
      clear st
      intro b5 w9 st
      refine WO_one rfl (One_store (t := 86) (x := (.tmp 10)) (y := (.tmp 47)) (v := .agg #[.int .i64 x2.1, .slice a7 (List.length x2.2) c7]) (c' := #[.int .i64 x2.1, .slice a7 (List.length x2.2) c7]) (by kernel_rfl) (show evL _ _ = some (.pointer (some ⟨b5, 0, none⟩)) from (by kernel_rfl)) (show evL _ _ = some (.agg #[.int .i64 x2.1, .slice a7 (List.length x2.2) c7]) from (by kernel_rfl)) st (by kernel_rfl) (by kernel_rfl) ?_)
      clear st
      intro w10 st
      refine WO_et rfl ?_
      refine W_sr ?_
      refine WO_seg 1 [(48, .pointer (some ⟨b5, 1, none⟩))] (by kernel_rfl) (by kernel_rfl) ?_
      refine WO_one rfl (One_load_own (d := 49) (t := 43) (x := (.tmp 48)) (.slice a7 (List.length x2.2) c7) (by kernel_rfl) rfl (show evL _ _ = some (.pointer (some ⟨b5, 1, none⟩)) from (by kernel_rfl)) st.head (by kernel_rfl) ?_)
      refine WO_seg 1 [(50, .agg #[.slice a7 (List.length x2.2) c7, .int .i64 0, .bool false])] (by kernel_rfl) (by kernel_rfl) ?_
      refine WO_one rfl (One_box_own (d := 51) (e := 99) (x := (.tmp 50)) (.agg #[.slice a7 (List.length x2.2) c7, .int .i64 0, .bool false]) (by kernel_rfl) rfl (by kernel_rfl) st ?_)
      clear st
      intro b6 w11 st
      refine WO_seg 1 [(11, .pointer (some ⟨b6, 0, none⟩))] (by kernel_rfl) (by kernel_rfl) ?_
      refine WO_et rfl ?_
      refine W_sr ?_
      refine WO_seg 3 [(12, .func (.func 79) #[.pointer (some ⟨b6, 0, none⟩)] #[])] (by kernel_rfl) (by kernel_rfl) ?_
      refine WO_et rfl ?_
      refine W_seq ?_
      refine W_draw [(11, fun w' => Inv m4 w' ∧ True), (10, fun w' => Inv m4 w' ∧ Piece.holds m4 w' (.blk b3 (.cells #[.slice a6 (List.length s1.2) c6] 47 (0, 0))) ∧ True)] (by kernel_rfl) st ?_
      clear st
      intro w12 _ st
      have hmS1 := m4.le_refl
      refine ⟨⟨.inr ⟨Inv.anti st.inv hmS1, trivial⟩, ⟨.inr ⟨Inv.anti st.inv hmS1, Piece.holds_anti st.tail.tail.head hmS1, trivial⟩, trivial⟩⟩, ?_⟩
      refine WA_pure 0 54 (.pointer (some ⟨b3, 0, none⟩)) (by kernel_rfl) rfl (by kernel_rfl) (.head _) (QP_then (QP_block (QP_then (QP_then (QP_block (QP_then QP_body)))))) ?_
      refine WA_load_own (t := 45) (x := (.tmp 54)) 1 55 (.slice a6 (List.length s1.2) c6) (by kernel_rfl) rfl (by kernel_rfl) (.tail _ (.head _)) (QP_then (QP_block (QP_then (QP_then (QP_block (QP_then QP_body)))))) (fun _ h => h.2.1) (show evL _ _ = some (.pointer (some ⟨b3, 0, none⟩)) from (by kernel_rfl)) (by kernel_rfl) ?_
      refine WA_pure 2 56 (.func (.func 79) #[.pointer (some ⟨b6, 0, none⟩)] #[]) (by kernel_rfl) rfl (by kernel_rfl) (.head _) (QP_then (QP_block (QP_then (QP_then (QP_block (QP_then QP_body)))))) ?_
      refine WA_pure 4 58 (.func (.func 79) #[.pointer (some ⟨b6, 0, none⟩)] #[]) (by kernel_rfl) rfl (by kernel_rfl) (.head _) (QP_then (QP_block (QP_then (QP_then (QP_block (QP_then QP_body)))))) ?_
      replace hr := bindS hr
      obtain ⟨y2, hx5, hr⟩ := hr
      refine WA_one 3 (by kernel_rfl)  (One_fn 57 79 #[.pointer (some ⟨b6, 0, none⟩)] (by kernel_rfl) rfl ?_)
      refine (revision_payload_text_ok st r7 hx5).mono ?_
      clear st
      rintro _ w13 ⟨a8, c8, m6, rfl, hle3, st, r8⟩
      refine ⟨_, rfl, ?_⟩
      have hm := Mem.le_trans hm hle3
      have r2 := r2.mono hle3
      have r4 := r4.mono hle3
      have r6 := r6.mono hle3
      have r7 := r7.mono hle3
      have hmS1 := Mem.le_trans hmS1 hle3
      refine ⟨⟨.inr ⟨Inv.anti st.inv hmS1, trivial⟩, ⟨.inr ⟨Inv.anti st.inv hmS1, Piece.holds_anti st.tail.tail.head hmS1, trivial⟩, trivial⟩⟩, ?_⟩
      replace hr := bindS hr
      obtain ⟨y3, hx6, hr⟩ := hr
      refine WA_one 5 (by kernel_rfl)  (One_fn 59 79 #[.pointer (some ⟨b6, 0, none⟩)] (by kernel_rfl) rfl ?_)
      refine (revision_payload_text_ok st r8 hx6).mono ?_
      clear st
      rintro _ w14 ⟨a9, c9, m7, rfl, hle4, st, r9⟩
      refine ⟨_, rfl, ?_⟩
      have hm := Mem.le_trans hm hle4
      have r2 := r2.mono hle4
      have r4 := r4.mono hle4
      have r6 := r6.mono hle4
      have r8 := r8.mono hle4
      have r7 := r7.mono hle4
      have hmS1 := Mem.le_trans hmS1 hle4
      refine ⟨⟨.inr ⟨Inv.anti st.inv hmS1, trivial⟩, ⟨.inr ⟨Inv.anti st.inv hmS1, Piece.holds_anti st.tail.tail.head hmS1, trivial⟩, trivial⟩⟩, ?_⟩
      refine WA_pure 6 60 (.agg #[.string y2.2, .string y3.2]) (by kernel_rfl) rfl (by kernel_rfl) (.head _) (QP_then (QP_block (QP_then (QP_then (QP_block (QP_then QP_body)))))) ?_
      refine WA_one 7 (by kernel_rfl)  (One_buildSlice (d := 61) (t := 45) (e := 66) (len := 1) (parts := #[(0, (.tmp 60))]) (cPair cStr cStr) (xs := [(y2.2, y3.2)]) [.string y2.2, .string y3.2] (by kernel_rfl) rfl (fun _ => buildCells_run (by kernel_rfl) _) rfl rfl st ⟨[.string y2.2, .string y3.2], _, rfl, ⟨_, _, rfl, rfl, rfl⟩, rfl⟩ ?_)
      clear st
      intro b7 m8 w15 hle5 st r10
      have hm := Mem.le_trans hm hle5
      have r2 := r2.mono hle5
      have r4 := r4.mono hle5
      have r6 := r6.mono hle5
      have r9 := r9.mono hle5
      have r7 := r7.mono hle5
      have hmS1 := Mem.le_trans hmS1 hle5
      refine ⟨⟨.inr ⟨Inv.anti st.inv hmS1, trivial⟩, ⟨.inr ⟨Inv.anti st.inv hmS1, Piece.holds_anti st.tail.tail.tail.head hmS1, trivial⟩, trivial⟩⟩, ?_⟩
      have st := st.front6
      replace hr := bindS hr
      obtain ⟨l2, hx7, hr⟩ := hr
      refine WA_one 8 (by kernel_rfl)  (One_append (d := 62) (t := 45) (u := 45) (e := 66) (by_ := 32) (x := (.tmp 55)) (y := (.tmp 61)) (cPair cStr cStr) (by kernel_rfl) rfl (show evL _ _ = some (.slice a6 (List.length s1.2) c6) from (by kernel_rfl)) (show evL _ _ = some (.slice (some ⟨b7, 0, none⟩) (List.length ([(y2.2, y3.2)])) 1) from (by kernel_rfl)) st (by kernel_rfl) (.inl (by kernel_rfl)) r6 r10.src hx7 ?_)
      clear st
      intro a10 c10 m9 w16 hle6 st r11
      have hm := Mem.le_trans hm hle6
      have r2 := r2.mono hle6
      have r4 := r4.mono hle6
      have r6 := r6.mono hle6
      have r10 := r10.mono hle6
      have r9 := r9.mono hle6
      have r7 := r7.mono hle6
      have hmS1 := Mem.le_trans hmS1 hle6
      refine ⟨⟨.inr ⟨Inv.anti st.inv hmS1, trivial⟩, ⟨.inr ⟨Inv.anti st.inv hmS1, Piece.holds_anti st.tail.tail.tail.tail.head hmS1, trivial⟩, trivial⟩⟩, ?_⟩
      refine WA_pure 9 63 (.pointer (some ⟨b3, 0, none⟩)) (by kernel_rfl) rfl (by kernel_rfl) (.head _) (QP_then (QP_block (QP_then (QP_then (QP_block (QP_then QP_body)))))) ?_
      have st := st.front4
      refine WA_one 10 (by kernel_rfl)  (One_store (t := 45) (x := (.tmp 63)) (y := (.tmp 62)) (v := .slice a10 (List.length l2) c10) (c' := #[.slice a10 (List.length l2) c10]) (by kernel_rfl) (show evL _ _ = some (.pointer (some ⟨b3, 0, none⟩)) from (by kernel_rfl)) (show evL _ _ = some (.slice a10 (List.length l2) c10) from (by kernel_rfl)) st (by kernel_rfl) (by kernel_rfl) ?_)
      clear st
      intro w17 st
      refine ⟨⟨.inr ⟨Inv.anti st.inv hmS1, trivial⟩, ⟨.inl rfl, trivial⟩⟩, ?_⟩
      refine WA_done (by kernel_rfl) ?_
      have st := st.front2
      have st := st.tail
      refine X_then ?_
      refine W_sr ?_
      replace hr := bindS hr
      obtain ⟨o3, hr, hrK⟩ := hr
      refine WO_cut (j := 8) (fun L' w' => ∃ (a11 : Option Addr) (c11 : Nat) (m10 : Mem), L' = [(2, .pointer (some ⟨b1, 0, none⟩)), (4, .slice a2 (List.length y1.1) c2), (7, .int .i64 (IntKind.wrap .i64 ((List.length y1.1 : Int) - 1))), (8, .pointer (some ⟨b3, 0, none⟩)), (42, .slice a4 (List.length l1) c4), (43, .int .i64 (List.length l1 : Int)), (44, .int .i64 s1.1), (71, .bool o3.1)] ∧ m.le m10 ∧ St m10 (.blk b3 (.cells #[.slice a10 (List.length l2) c10] 47 (0, 0)) :: .blk b6 (.cells #[.slice a11 (List.length o3.2.1) c11, .int .i64 o3.2.2.1, .bool o3.2.2.2] 99 (0, 0)) :: .blk b5 (.cells #[.int .i64 x2.1, .slice a7 (List.length x2.2) c7] 86 (0, 0)) :: .blk b1 (.cells #[.slice none (List.length ([] : List (ByteArray × ByteArray))) 0] 47 (0, 0)) :: .room a10 (List.length l2) c10 66 2 :: .room a2 (List.length y1.1) c2 86 2 :: own) w' ∧ RepS (cPair (cInt .i64) (cSl cU8)) m10 a2 c2 y1.1 ∧ RepS (cPair (cInt .i64) (cSl cU8)) m10 a4 c4 l1 ∧ RepS (cPair cStr cStr) m10 a10 c10 l2 ∧ RepS cU8 m10 a11 c11 o3.2.1 ∧ RepS cU8 m10 a7 c7 x2.2) ?_ ?_
      ·clear hr st
       have hr := hrK
       clear hrK
       rintro _ w18 ⟨a11, c11, m10, rfl, hm, st, r2, r4, r11, r12, r7⟩
       refine WO_et rfl ?_
       refine W_cond o3.1 (by kernel_rfl) ?_ ?_
       ·intro hc
        rw [if_pos hc] at hr
        refine W_sr ?_
        refine WO_seg 1 [(72, .agg #[.slice none (List.length ([] : List (ByteArray × ByteArray))) 0])] (by kernel_rfl) (by kernel_rfl) ?_
        have st := st.front3
        refine WO_one rfl (One_store (t := 47) (x := (.tmp 2)) (y := (.tmp 72)) (v := .agg #[.slice none (List.length ([] : List (ByteArray × ByteArray))) 0]) (c' := #[.slice none (List.length ([] : List (ByteArray × ByteArray))) 0]) (by kernel_rfl) (show evL _ _ = some (.pointer (some ⟨b1, 0, none⟩)) from (by kernel_rfl)) (show evL _ _ = some (.agg #[.slice none (List.length ([] : List (ByteArray × ByteArray))) 0]) from (by kernel_rfl)) st (by kernel_rfl) (by kernel_rfl) ?_)
        clear st
        intro w20 st
        refine WO_seg 1 [(3, .int .i64 6)] (by kernel_rfl) (by kernel_rfl) ?_
        refine WO_end rfl ?_
        have st := st.front5
        have st := st.tail
        refine X_then ?_
        refine W_ret ?_
        refine X_block_ret ?_
        refine X_then_ret ?_
        obtain rfl := Option.some.inj hr
        have ho := hBu1 _ rfl
        subst ho
        have hr := hrKu1
        dsimp only at hr
        refine X_then_ret ?_
        refine X_block_ret ?_
        refine X_then_ret ?_
        obtain rfl := Option.some.inj hr
        refine X_ret [.cell 2 47, .tmp 3] [.agg #[.slice none (List.length ([] : List (ByteArray × ByteArray))) 0], .int .i64 6] rfl (ResAll.cons (ResAt.blk (v := .agg #[.slice none (List.length ([] : List (ByteArray × ByteArray))) 0]) (o := 0) (by kernel_rfl) st.head (by kernel_rfl)) (ResAll.cons (ResAt.tmp (by kernel_rfl)) ResAll.nil)) ?_
        have st := st.nilroom 66 2
        have st := st.front1
        have st := st.tail
        have st := st.front1
        have st := st.tail
        have st := st.front1
        have st := st.tail
        have st := st.front1
        have st := st.tail
        have st := st.front1
        have st := st.tail
        exact ⟨none, 0, m10, rfl, hm, st, (RepS.nil _ _)⟩
       ·intro hc
        rw [if_neg (not_true hc)] at hr
        refine W_skip ?_
        refine X_block ?_
        refine X_then ?_
        refine W_region ?_
        refine WO_seg 2 [(44, .int .i64 (IntKind.wrap .i64 (s1.1 + 1)))] (by kernel_rfl) (by kernel_rfl) ?_
        refine WO_end rfl ?_
        obtain rfl := Option.some.inj hr
        have hL := hSu1 _ rfl
        have st := st.front1
        have st := st.tail
        have st := st.front1
        have st := st.tail
        have st := st.front2
        have st := st.front3
        have st := st.front3
        have st := st.front3
        exact X_env _ (by kernel_rfl) (X_round k1 (Nat.lt_succ_self _) ⟨(IntKind.wrap .i64 (s1.1 + 1), l2), a10, c10, m10, hL, rfl, hm, st, r2, r4, r11⟩)
      ·intro K
       clear hrK
       refine WO_seg 1 [(64, .pointer (some ⟨b5, 0, none⟩))] (by kernel_rfl) (by kernel_rfl) ?_
       refine WO_one rfl (One_load_own (d := 65) (t := 3) (x := (.tmp 64)) (.int .i64 x2.1) (by kernel_rfl) rfl (show evL _ _ = some (.pointer (some ⟨b5, 0, none⟩)) from (by kernel_rfl)) st.tail.tail.tail.head (by kernel_rfl) ?_)
       refine WO_seg 2 [(67, .bool (x2.1 != 1))] (by kernel_rfl) (by kernel_rfl) ?_
       rcases bcases (x2.1 != 1) with hc | hc
       ·rw [if_pos hc] at hr
        refine WO_fact (t := 67) (b := true) (x2.1 != 1) (by kernel_rfl) hc ?_
        refine WO_seg 4 [(71, .bool true)] (by kernel_rfl) (by kernel_rfl) ?_
        obtain rfl := Option.some.inj hr
        have st := st.front5
        have st := st.front2
        have st := st.front5
        have st := st.front5
        have st := st.front5
        have st := st.front5
        exact WO_env _ (by kernel_rfl) (K _ _ ⟨a9, c9, m9, rfl, hm, st, r2, r4, r11, r9, r7⟩)
       ·rw [if_neg (not_true hc)] at hr
        refine WO_fact (t := 67) (b := false) (x2.1 != 1) (by kernel_rfl) hc ?_
        refine WO_seg 1 [(68, .pointer (some ⟨b6, 0, none⟩))] (by kernel_rfl) (by kernel_rfl) ?_
        have st := st.front2
        replace hr := bindS hr
        obtain ⟨y4, hx8, hr⟩ := hr
        refine WO_one rfl (One_fn 69 80 #[.pointer (some ⟨b6, 0, none⟩)] (by kernel_rfl) rfl ?_)
        refine (revision_payload_end_ok st r9 hx8).mono ?_
        clear st
        rintro _ w19 ⟨a12, c12, m11, rfl, hle7, st, r13⟩
        refine ⟨_, rfl, ?_⟩
        have hm := Mem.le_trans hm hle7
        have r2 := r2.mono hle7
        have r4 := r4.mono hle7
        have r9 := r9.mono hle7
        have r11 := r11.mono hle7
        have r7 := r7.mono hle7
        refine WO_seg 2 [(71, .bool (!y4.2))] (by kernel_rfl) (by kernel_rfl) ?_
        obtain rfl := Option.some.inj hr
        have st := st.front5
        have st := st.front3
        have st := st.front5
        have st := st.front5
        have st := st.front4
        have st := st.front5
        exact WO_env _ (by kernel_rfl) (K _ _ ⟨a12, c12, m11, rfl, hm, st, r2, r4, r11, r13, r7⟩)
     ·intro hc
      rw [if_neg (not_true hc)] at hr
      refine W_exit ?_
      refine X_then_exit ?_
      obtain rfl := Option.some.inj hr
      have ho := hBu1 _ rfl
      have st := st.front3
      have st := st.front3
      have st := st.front3
      have st := st.front3
      refine X_then_exit ?_
      exact X_env _ (by kernel_rfl) (K0_u1 _ _ ⟨s1.2, a6, c6, m4, ho, rfl, hm, st, r2, r6⟩)
  ·intro K
   clear hrK
   refine WO_seg 3 [(31, .bool (decide ((IntKind.wrap .i64 ((List.length y1.1 : Int) - 1)) < 0)))] (by kernel_rfl) (by kernel_rfl) ?_
   rcases bcases (decide ((IntKind.wrap .i64 ((List.length y1.1 : Int) - 1)) < 0)) with hc | hc
   ·rw [if_pos hc] at hr
    refine WO_fact (t := 31) (b := true) (decide ((IntKind.wrap .i64 ((List.length y1.1 : Int) - 1)) < 0)) (by kernel_rfl) hc ?_
    refine WO_seg 7 [(38, .bool true)] (by kernel_rfl) (by kernel_rfl) ?_
    obtain rfl := Option.some.inj hr
    have st := st.front1
    exact WO_env _ (by kernel_rfl) (K _ _ ⟨m1, rfl, hm, st, r2⟩)
   ·rw [if_neg (not_true hc)] at hr
    refine WO_fact (t := 31) (b := false) (decide ((IntKind.wrap .i64 ((List.length y1.1 : Int) - 1)) < 0)) (by kernel_rfl) hc ?_
    refine WO_seg 2 [(32, .slice a2 (List.length y1.1) c2), (33, .int .i64 (IntKind.wrap .i64 ((List.length y1.1 : Int) - 1)))] (by kernel_rfl) (by kernel_rfl) ?_
    replace hr := bindS hr
    obtain ⟨x1, hx2, hr⟩ := hr
    refine WO_one rfl (One_index (d := 34) (t := 94) (e := 86) (x := (.tmp 32)) (y := (.tmp 33)) (cPair (cInt .i64) (cSl cU8)) (by kernel_rfl) rfl (show evL _ _ = some (.slice a2 (List.length y1.1) c2) from (by kernel_rfl)) (show evL _ _ = some (.int .i64 (IntKind.wrap .i64 ((List.length y1.1 : Int) - 1))) from (by kernel_rfl)) (by kernel_rfl) r2 hx2 ?_)
    rintro b2 f1 cs1 ⟨_, _, rfl, rfl, ⟨a3, c3, rfl, r3⟩⟩ hq1
    refine WO_seg 1 [(35, .pointer (some ⟨b2, f1, none⟩))] (by kernel_rfl) (by kernel_rfl) ?_
    refine WO_one rfl (One_load_row (d := 36) (t := 3) (x := (.tmp 35)) (.int .i64 x1.1) (by kernel_rfl) rfl (show evL _ _ = some (.pointer (some ⟨b2, f1, none⟩)) from (by kernel_rfl)) st hq1 (by kernel_rfl) ?_)
    refine WO_seg 2 [(38, .bool (x1.1 != 2))] (by kernel_rfl) (by kernel_rfl) ?_
    obtain rfl := Option.some.inj hr
    have st := st.front1
    exact WO_env _ (by kernel_rfl) (K _ _ ⟨m1, rfl, hm, st, r2⟩)

def slices_Equal_api_File_api_File_L1 (N : Nat) (p0 : List (ByteArray × ByteArray)) (p1 : List (ByteArray × ByteArray)) (s1 : Int) : Option ((Int) ⊕ ((Unit) ⊕ (Bool))) :=
 if (decide (s1 < (List.length p0 : Int))) = true then ((idx p0 s1).bind fun x1 => (idx p1 s1).bind fun x2 => if (!((x1.1.toList == x2.1.toList) && ((x1.2.toList == x2.2.toList) && true))) = true then (some (.inr (.inr (false)))) else (some (.inl (IntKind.wrap .i64 (s1 + 1))))) else (some (.inr (.inl ())))

def slices_Equal_api_File_api_File (N : Nat) (p0 : List (ByteArray × ByteArray)) (p1 : List (ByteArray × ByteArray)) : Option (Bool) :=
 if ((List.length p0 : Int) != (List.length p1 : Int)) = true then (some false) else ((loopM (slices_Equal_api_File_api_File_L1 N p0 p1) N 0).bind fun out1 => (match out1 with | .inl o1 => some true | .inr (z) => some z))

set_option maxHeartbeats 4000000 in
set_option maxRecDepth 100000 in
theorem slices_Equal_api_File_api_File_ok {N : Nat} {m : Mem} {own : List Piece} {w : World} {p0 : List (ByteArray × ByteArray)} {p1 : List (ByteArray × ByteArray)} {a1 : Option Addr} {c1 : Nat} {a2 : Option Addr} {c2 : Nat} {r : Bool} (st : St m (own) w) (r1 : RepS (cPair cStr cStr) m a1 c1 p0) (r2 : RepS (cPair cStr cStr) m a2 c2 p1) (hr : slices_Equal_api_File_api_File N p0 p1 = some r) : Calls Go.Proofs.Tryd.prog 57 #[.slice a1 (List.length p0) c1, .slice a2 (List.length p1) c2] w fun e w' => ∃ (m' : Mem), e = .returned (.bool r) ∧ m.le m' ∧ St m' (own) w' := by
 unfold slices_Equal_api_File_api_File at hr
 have hm := m.le_refl
 refine W_calls Go.Proofs.Tryd.func57 rfl Go.Proofs.Tryd.ntmps57 [(0, .slice a1 (List.length p0) c1), (1, .slice a2 (List.length p1) c2)] (by kernel_rfl) rfl ?_
 refine W_sr ?_
 refine WO_seg 1 [] (by kernel_rfl) (by kernel_rfl) ?_
 refine WO_et rfl ?_
 refine W_seq ?_
 refine W_sr ?_
 refine WO_seg 5 [(10, .bool ((List.length p0 : Int) != (List.length p1 : Int)))] (by kernel_rfl) (by kernel_rfl) ?_
 refine WO_et rfl ?_
 refine W_cond ((List.length p0 : Int) != (List.length p1 : Int)) (by kernel_rfl) ?_ ?_
 ·intro hc
  rw [if_pos hc] at hr
  refine W_sr ?_
  refine WO_seg 1 [(4, .bool false)] (by kernel_rfl) (by kernel_rfl) ?_
  refine WO_et rfl ?_
  refine W_ret ?_
  refine X_then_ret ?_
  obtain rfl := Option.some.inj hr
  refine X_ret [.tmp 4] [.bool false] rfl (ResAll.cons (ResAt.tmp (by kernel_rfl)) ResAll.nil) ?_
  exact ⟨m, rfl, hm, st⟩
 ·intro hc
  rw [if_neg (not_true hc)] at hr
  refine W_skip ?_
  refine X_then ?_
  refine W_seq ?_
  refine W_sr ?_
  refine WO_seg 3 [(12, .int .i64 (List.length p0 : Int)), (13, .int .i64 0)] (by kernel_rfl) (by kernel_rfl) ?_
  refine WO_et rfl ?_
  refine W_block ?_
  replace hr := bindS hr
  obtain ⟨out1, hr, hrKu1⟩ := hr
  refine W_cut (.exit 0) (fun L' w' => ∃ (o1 : Unit) (m1 : Mem), (.inl o1) = out1 ∧ L' = [] ∧ m.le m1 ∧ St m1 (own) w') ?_ ?_
  ·clear hr st
   rintro _ w1 ⟨o1, m1, rfl, rfl, hm, st⟩
   have hr := hrKu1
   clear hrKu1
   dsimp only at hr
   refine X_block_eq ?_
   refine X_then ?_
   refine W_sr ?_
   refine WO_seg 1 [(4, .bool true)] (by kernel_rfl) (by kernel_rfl) ?_
   refine WO_et rfl ?_
   refine W_ret ?_
   obtain rfl := Option.some.inj hr
   refine X_ret [.tmp 4] [.bool true] rfl (ResAll.cons (ResAt.tmp (by kernel_rfl)) ResAll.nil) ?_
   exact ⟨m1, rfl, hm, st⟩
  intro K0_u1
  refine W_env _ (by kernel_rfl) (W_loop (fun k1 L' w' => ∃ (s1 : Int) (m2 : Mem), loopM (slices_Equal_api_File_api_File_L1 N p0 p1) k1 s1 = some out1 ∧ L' = [(0, .slice a1 (List.length p0) c1), (1, .slice a2 (List.length p1) c2), (12, .int .i64 (List.length p0 : Int)), (13, .int .i64 s1)] ∧ m.le m2 ∧ St m2 (own) w' ∧ RepS (cPair cStr cStr) m2 a1 c1 p0 ∧ RepS (cPair cStr cStr) m2 a2 c2 p1) N ⟨0, m, hr, rfl, hm, st, r1, r2⟩ ?_)
  clear st hr
  rintro k1 _ w2 ⟨s1, m2, hL, rfl, hm, st, r1, r2⟩
  rcases k1 with _ | k1
  ·exact loopM_zero hL
  ·obtain ⟨qu1, hr, hSu1, hBu1⟩ := loopM_succ hL
   clear hL
   unfold slices_Equal_api_File_api_File_L1 at hr
   refine W_sr ?_
   refine WO_seg 1 [(14, .bool (decide (s1 < (List.length p0 : Int))))] (by kernel_rfl) (by kernel_rfl) ?_
   refine WO_et rfl ?_
   refine W_seq ?_
   refine W_cond (decide (s1 < (List.length p0 : Int))) (by kernel_rfl) ?_ ?_
   ·intro hc
    rw [if_pos hc] at hr
    refine W_skip ?_
    refine X_then ?_
    refine W_seq ?_
    refine W_block ?_
    refine W_sr ?_
    refine WO_seg 2 [(5, .int .i64 s1)] (by kernel_rfl) (by kernel_rfl) ?_
    refine WO_et rfl ?_
    refine W_seq ?_
    refine W_draw [(9, fun w' => Inv m2 w' ∧ True)] (by kernel_rfl) st ?_
    clear st
    intro w3 _ st
    have hmS1 := m2.le_refl
    refine ⟨⟨.inr ⟨Inv.anti st.inv hmS1, trivial⟩, trivial⟩, ?_⟩
    refine WA_pure 0 16 (.slice a1 (List.length p0) c1) (by kernel_rfl) rfl (by kernel_rfl) (.head _) (QP_then (QP_block (QP_then (QP_then (QP_block (QP_then QP_body)))))) ?_
    refine WA_pure 1 17 (.int .i64 s1) (by kernel_rfl) rfl (by kernel_rfl) (.head _) (QP_then (QP_block (QP_then (QP_then (QP_block (QP_then QP_body)))))) ?_
    replace hr := bindS hr
    obtain ⟨x1, hx1, hr⟩ := hr
    refine WA_index (t := 45) (e := 66) (x := (.tmp 16)) (y := (.tmp 17)) 2 18 (cPair cStr cStr) (by kernel_rfl) rfl (by kernel_rfl) (.head _) (QP_then (QP_block (QP_then (QP_then (QP_block (QP_then QP_body)))))) (show evL _ _ = some (.slice a1 (List.length p0) c1) from (by kernel_rfl)) (show evL _ _ = some (.int .i64 s1) from (by kernel_rfl)) (by kernel_rfl) r1 hx1 ?_
    rintro b1 f1 cs1 ⟨_, _, rfl, rfl, rfl⟩ hq1
    refine WA_load_row (t := 66) (x := (.tmp 18)) 3 19 (.agg #[.string x1.1, .string x1.2]) (by kernel_rfl) rfl (by kernel_rfl) (.head _) (QP_then (QP_block (QP_then (QP_then (QP_block (QP_then QP_body)))))) (fun _ h => h.1) (show evL _ _ = some (.pointer (some ⟨b1, f1, none⟩)) from (by kernel_rfl)) hq1 (by kernel_rfl) ?_
    refine WA_pure 4 20 (.slice a2 (List.length p1) c2) (by kernel_rfl) rfl (by kernel_rfl) (.head _) (QP_then (QP_block (QP_then (QP_then (QP_block (QP_then QP_body)))))) ?_
    refine WA_pure 5 21 (.int .i64 s1) (by kernel_rfl) rfl (by kernel_rfl) (.head _) (QP_then (QP_block (QP_then (QP_then (QP_block (QP_then QP_body)))))) ?_
    replace hr := bindS hr
    obtain ⟨x2, hx2, hr⟩ := hr
    refine WA_index (t := 45) (e := 66) (x := (.tmp 20)) (y := (.tmp 21)) 6 22 (cPair cStr cStr) (by kernel_rfl) rfl (by kernel_rfl) (.head _) (QP_then (QP_block (QP_then (QP_then (QP_block (QP_then QP_body)))))) (show evL _ _ = some (.slice a2 (List.length p1) c2) from (by kernel_rfl)) (show evL _ _ = some (.int .i64 s1) from (by kernel_rfl)) (by kernel_rfl) r2 hx2 ?_
    rintro b2 f2 cs2 ⟨_, _, rfl, rfl, rfl⟩ hq2
    refine WA_load_row (t := 66) (x := (.tmp 22)) 7 23 (.agg #[.string x2.1, .string x2.2]) (by kernel_rfl) rfl (by kernel_rfl) (.head _) (QP_then (QP_block (QP_then (QP_then (QP_block (QP_then QP_body)))))) (fun _ h => h.1) (show evL _ _ = some (.pointer (some ⟨b2, f2, none⟩)) from (by kernel_rfl)) hq2 (by kernel_rfl) ?_
    refine WA_one 8 (by kernel_rfl)  (One_neAgg (d := 24) (t := 66) (t2 := 66) (x := (.tmp 19)) (y := (.tmp 23)) (xs := #[.string x1.1, .string x1.2]) (ys := #[.string x2.1, .string x2.2]) ((x1.1.toList == x2.1.toList) && ((x1.2.toList == x2.2.toList) && true)) (by kernel_rfl) rfl (show evL _ _ = some (.agg #[.string x1.1, .string x1.2]) from (by kernel_rfl)) (show evL _ _ = some (.agg #[.string x2.1, .string x2.2]) from (by kernel_rfl)) (by kernel_rfl) (by kernel_rfl) (by kernel_rfl) ?_)
    refine ⟨⟨.inr ⟨Inv.anti st.inv hmS1, trivial⟩, trivial⟩, ?_⟩
    refine WA_done (by kernel_rfl) ?_
    refine X_then ?_
    refine W_cond (!((x1.1.toList == x2.1.toList) && ((x1.2.toList == x2.2.toList) && true))) (by kernel_rfl) ?_ ?_
    ·intro hc
     rw [if_pos hc] at hr
     refine W_sr ?_
     refine WO_seg 1 [(4, .bool false)] (by kernel_rfl) (by kernel_rfl) ?_
     refine WO_et rfl ?_
     refine W_ret ?_
     refine X_block_ret ?_
     refine X_then_ret ?_
     obtain rfl := Option.some.inj hr
     have ho := hBu1 _ rfl
     subst ho
     have hr := hrKu1
     dsimp only at hr
     refine X_then_ret ?_
     refine X_block_ret ?_
     refine X_then_ret ?_
     obtain rfl := Option.some.inj hr
     refine X_ret [.tmp 4] [.bool false] rfl (ResAll.cons (ResAt.tmp (by kernel_rfl)) ResAll.nil) ?_
     exact ⟨m2, rfl, hm, st⟩
    ·intro hc
     rw [if_neg (not_true hc)] at hr
     refine W_skip ?_
     refine X_block ?_
     refine X_then ?_
     refine W_region ?_
     refine WO_seg 2 [(13, .int .i64 (IntKind.wrap .i64 (s1 + 1)))] (by kernel_rfl) (by kernel_rfl) ?_
     refine WO_end rfl ?_
     obtain rfl := Option.some.inj hr
     have hL := hSu1 _ rfl
     exact X_env _ (by kernel_rfl) (X_round k1 (Nat.lt_succ_self _) ⟨IntKind.wrap .i64 (s1 + 1), m2, hL, rfl, hm, st, r1, r2⟩)
   ·intro hc
    rw [if_neg (not_true hc)] at hr
    refine W_exit ?_
    refine X_then_exit ?_
    obtain rfl := Option.some.inj hr
    have ho := hBu1 _ rfl
    refine X_then_exit ?_
    exact X_env _ (by kernel_rfl) (K0_u1 _ _ ⟨(), m2, ho, rfl, hm, st⟩)

def revision_Same (N : Nat) (p0 : (List (ByteArray × ByteArray))) (p1 : (List (ByteArray × ByteArray))) : Option (Bool) :=
 (slices_Equal_api_File_api_File N p0 p1).bind fun y1 => some y1

set_option maxHeartbeats 4000000 in
set_option maxRecDepth 100000 in
theorem revision_Same_ok {N : Nat} {m : Mem} {own : List Piece} {w : World} {p0 : (List (ByteArray × ByteArray))} {p1 : (List (ByteArray × ByteArray))} {a1 : Option Addr} {c1 : Nat} {a2 : Option Addr} {c2 : Nat} {r : Bool} (st : St m (own) w) (r1 : RepS (cPair cStr cStr) m a1 c1 p0) (r2 : RepS (cPair cStr cStr) m a2 c2 p1) (hr : revision_Same N p0 p1 = some r) : Calls Go.Proofs.Tryd.prog 28 #[.agg #[.slice a1 (List.length p0) c1], .agg #[.slice a2 (List.length p1) c2]] w fun e w' => ∃ (m' : Mem), e = .returned (.bool r) ∧ m.le m' ∧ St m' (own) w' := by
 unfold revision_Same at hr
 have hm := m.le_refl
 refine W_calls Go.Proofs.Tryd.func28 rfl Go.Proofs.Tryd.ntmps28 [(0, .agg #[.slice a1 (List.length p0) c1]), (1, .agg #[.slice a2 (List.length p1) c2])] (by kernel_rfl) rfl ?_
 refine W_sr ?_
 refine WO_one rfl (One_box (d := 2) (e := 47) (x := (.tmp 0)) (.agg #[.slice a1 (List.length p0) c1]) (by kernel_rfl) rfl (by kernel_rfl) st ?_)
 clear st
 intro b1 m1 w1 hle1 st hb1
 have hm := Mem.le_trans hm hle1
 have r1 := r1.mono hle1
 have r2 := r2.mono hle1
 refine WO_one rfl (One_box (d := 3) (e := 47) (x := (.tmp 1)) (.agg #[.slice a2 (List.length p1) c2]) (by kernel_rfl) rfl (by kernel_rfl) st ?_)
 clear st
 intro b2 m2 w2 hle2 st hb2
 have hm := Mem.le_trans hm hle2
 have r1 := r1.mono hle2
 have r2 := r2.mono hle2
 have hb1 := hb1.mono hle2
 refine WO_seg 1 [] (by kernel_rfl) (by kernel_rfl) ?_
 refine WO_et rfl ?_
 refine W_sr ?_
 refine WO_seg 1 [(5, .pointer (some ⟨b1, 0, none⟩))] (by kernel_rfl) (by kernel_rfl) ?_
 refine WO_one rfl (One_load_row (d := 6) (t := 45) (x := (.tmp 5)) (.slice a1 (List.length p0) c1) (by kernel_rfl) rfl (show evL _ _ = some (.pointer (some ⟨b1, 0, none⟩)) from (by kernel_rfl)) st hb1 (by kernel_rfl) ?_)
 refine WO_seg 1 [(7, .pointer (some ⟨b2, 0, none⟩))] (by kernel_rfl) (by kernel_rfl) ?_
 refine WO_one rfl (One_load_row (d := 8) (t := 45) (x := (.tmp 7)) (.slice a2 (List.length p1) c2) (by kernel_rfl) rfl (show evL _ _ = some (.pointer (some ⟨b2, 0, none⟩)) from (by kernel_rfl)) st hb2 (by kernel_rfl) ?_)
 replace hr := bindS hr
 obtain ⟨y1, hx1, hr⟩ := hr
 refine WO_one rfl (One_fn 9 57 #[.slice a1 (List.length p0) c1, .slice a2 (List.length p1) c2] (by kernel_rfl) rfl ?_)
 refine (slices_Equal_api_File_api_File_ok st r1 r2 hx1).mono ?_
 clear st
 rintro _ w3 ⟨m3, rfl, hle3, st⟩
 refine ⟨_, rfl, ?_⟩
 have hm := Mem.le_trans hm hle3
 have hb1 := hb1.mono hle3
 have r1 := r1.mono hle3
 have hb2 := hb2.mono hle3
 have r2 := r2.mono hle3
 refine WO_seg 1 [(4, .bool y1)] (by kernel_rfl) (by kernel_rfl) ?_
 refine WO_et rfl ?_
 refine W_ret ?_
 obtain rfl := Option.some.inj hr
 refine X_ret [.tmp 4] [.bool y1] rfl (ResAll.cons (ResAt.tmp (by kernel_rfl)) ResAll.nil) ?_
 exact ⟨m3, rfl, hm, st⟩

def internal_stringslite_HasSuffix (N : Nat) (p0 : ByteArray) (p1 : ByteArray) : Option (Bool) :=
 (if (decide ((ByteArray.size p0 : Int) ≥ (ByteArray.size p1 : Int))) = true then ((subB p0 (IntKind.wrap .i64 ((ByteArray.size p0 : Int) - (ByteArray.size p1 : Int))) (ByteArray.size p0 : Int)).bind fun s1 => some (s1.toList == p1.toList)) else (some false) : Option (Bool)).bind fun o1 => some o1

set_option maxHeartbeats 4000000 in
set_option maxRecDepth 100000 in
theorem internal_stringslite_HasSuffix_ok {N : Nat} {m : Mem} {own : List Piece} {w : World} {p0 : ByteArray} {p1 : ByteArray} {r : Bool} (st : St m (own) w) (hr : internal_stringslite_HasSuffix N p0 p1 = some r) : Calls Go.Proofs.Tryd.prog 89 #[.string p0, .string p1] w fun e w' => ∃ (m' : Mem), e = .returned (.bool r) ∧ m.le m' ∧ St m' (own) w' := by
 unfold internal_stringslite_HasSuffix at hr
 have hm := m.le_refl
 refine W_calls Go.Proofs.Tryd.func89 rfl Go.Proofs.Tryd.ntmps89 [(0, .string p0), (1, .string p1)] (by kernel_rfl) rfl ?_
 refine W_sr ?_
 refine WO_seg 1 [] (by kernel_rfl) (by kernel_rfl) ?_
 refine WO_et rfl ?_
 refine W_sr ?_
 replace hr := bindS hr
 obtain ⟨o1, hr, hrK⟩ := hr
 refine WO_cut (j := 17) (fun L' w' => ∃ (m1 : Mem), L' = [(4, .bool o1)] ∧ m.le m1 ∧ St m1 (own) w') ?_ ?_
 ·clear hr st
  have hr := hrK
  clear hrK
  rintro _ w1 ⟨m1, rfl, hm, st⟩
  refine WO_et rfl ?_
  refine W_ret ?_
  obtain rfl := Option.some.inj hr
  refine X_ret [.tmp 4] [.bool o1] rfl (ResAll.cons (ResAt.tmp (by kernel_rfl)) ResAll.nil) ?_
  exact ⟨m1, rfl, hm, st⟩
 ·intro K
  clear hrK
  refine WO_seg 6 [(10, .bool (decide ((ByteArray.size p0 : Int) ≥ (ByteArray.size p1 : Int))))] (by kernel_rfl) (by kernel_rfl) ?_
  rcases bcases (decide ((ByteArray.size p0 : Int) ≥ (ByteArray.size p1 : Int))) with hc | hc
  ·rw [if_pos hc] at hr
   refine WO_fact (t := 10) (b := true) (decide ((ByteArray.size p0 : Int) ≥ (ByteArray.size p1 : Int))) (by kernel_rfl) hc ?_
   refine WO_seg 6 [(11, .string p0), (16, .int .i64 (IntKind.wrap .i64 ((ByteArray.size p0 : Int) - (ByteArray.size p1 : Int))))] (by kernel_rfl) (by kernel_rfl) ?_
   replace hr := bindS hr
   obtain ⟨s1, hx1, hr⟩ := hr
   refine WO_one rfl (One_strSlice (d := 17) (t := 9) (x := (.tmp 11)) (lo := (some (.tmp 16))) (hi := none) (by kernel_rfl) rfl (show evL _ _ = some (.string p0) from (by kernel_rfl)) (by kernel_rfl) (.inr ⟨_, _, rfl, (show evL _ _ = some (.int .i64 (IntKind.wrap .i64 ((ByteArray.size p0 : Int) - (ByteArray.size p1 : Int)))) from (by kernel_rfl))⟩) (.inl ⟨rfl, rfl⟩) hx1 ?_)
   refine WO_seg 4 [(4, .bool (s1.toList == p1.toList))] (by kernel_rfl) (by kernel_rfl) ?_
   obtain rfl := Option.some.inj hr
   exact WO_env _ (by kernel_rfl) (K _ _ ⟨m, rfl, hm, st⟩)
  ·rw [if_neg (not_true hc)] at hr
   refine WO_fact (t := 10) (b := false) (decide ((ByteArray.size p0 : Int) ≥ (ByteArray.size p1 : Int))) (by kernel_rfl) hc ?_
   refine WO_seg 11 [(4, .bool false)] (by kernel_rfl) (by kernel_rfl) ?_
   obtain rfl := Option.some.inj hr
   exact WO_env _ (by kernel_rfl) (K _ _ ⟨m, rfl, hm, st⟩)

def strings_HasSuffix (N : Nat) (p0 : ByteArray) (p1 : ByteArray) : Option (Bool) :=
 (internal_stringslite_HasSuffix N p0 p1).bind fun y1 => some y1

set_option maxHeartbeats 4000000 in
set_option maxRecDepth 100000 in
theorem strings_HasSuffix_ok {N : Nat} {m : Mem} {own : List Piece} {w : World} {p0 : ByteArray} {p1 : ByteArray} {r : Bool} (st : St m (own) w) (hr : strings_HasSuffix N p0 p1 = some r) : Calls Go.Proofs.Tryd.prog 59 #[.string p0, .string p1] w fun e w' => ∃ (m' : Mem), e = .returned (.bool r) ∧ m.le m' ∧ St m' (own) w' := by
 unfold strings_HasSuffix at hr
 have hm := m.le_refl
 refine W_calls Go.Proofs.Tryd.func59 rfl Go.Proofs.Tryd.ntmps59 [(0, .string p0), (1, .string p1)] (by kernel_rfl) rfl ?_
 refine W_sr ?_
 refine WO_seg 1 [] (by kernel_rfl) (by kernel_rfl) ?_
 refine WO_et rfl ?_
 refine W_sr ?_
 refine WO_seg 2 [(5, .string p0), (6, .string p1)] (by kernel_rfl) (by kernel_rfl) ?_
 replace hr := bindS hr
 obtain ⟨y1, hx1, hr⟩ := hr
 refine WO_one rfl (One_fn 7 89 #[.string p0, .string p1] (by kernel_rfl) rfl ?_)
 refine (internal_stringslite_HasSuffix_ok st hx1).mono ?_
 clear st
 rintro _ w1 ⟨m1, rfl, hle1, st⟩
 refine ⟨_, rfl, ?_⟩
 have hm := Mem.le_trans hm hle1
 refine WO_seg 1 [(4, .bool y1)] (by kernel_rfl) (by kernel_rfl) ?_
 refine WO_et rfl ?_
 refine W_ret ?_
 obtain rfl := Option.some.inj hr
 refine X_ret [.tmp 4] [.bool y1] rfl (ResAll.cons (ResAt.tmp (by kernel_rfl)) ResAll.nil) ?_
 exact ⟨m1, rfl, hm, st⟩

def revision_IsSource (N : Nat) (p0 : ByteArray) : Option (Bool) :=
 ((lexer_Path N p0).bind fun y1 => if y1 = true then (if (decide ((ByteArray.size p0 : Int) > 4)) = true then ((strings_HasSuffix N p0 (⟨#[46, 115, 114, 99]⟩ : ByteArray)).bind fun y2 => some y2) else (some false)) else (some false) : Option (Bool)).bind fun o1 => some o1

set_option maxHeartbeats 4000000 in
set_option maxRecDepth 100000 in
theorem revision_IsSource_ok {N : Nat} {m : Mem} {own : List Piece} {w : World} {p0 : ByteArray} {r : Bool} (st : St m (own) w) (hr : revision_IsSource N p0 = some r) : Calls Go.Proofs.Tryd.prog 32 #[.string p0] w fun e w' => ∃ (m' : Mem), e = .returned (.bool r) ∧ m.le m' ∧ St m' (own) w' := by
 unfold revision_IsSource at hr
 have hm := m.le_refl
 refine W_calls Go.Proofs.Tryd.func32 rfl Go.Proofs.Tryd.ntmps32 [(0, .string p0)] (by kernel_rfl) rfl ?_
 refine W_sr ?_
 refine WO_seg 1 [] (by kernel_rfl) (by kernel_rfl) ?_
 refine WO_et rfl ?_
 refine W_sr ?_
 replace hr := bindS hr
 obtain ⟨o1, hr, hrK⟩ := hr
 refine WO_cut (j := 12) (fun L' w' => ∃ (m1 : Mem), L' = [(2, .bool o1)] ∧ m.le m1 ∧ St m1 (own) w') ?_ ?_
 ·clear hr st
  have hr := hrK
  clear hrK
  rintro _ w1 ⟨m1, rfl, hm, st⟩
  refine WO_et rfl ?_
  refine W_ret ?_
  obtain rfl := Option.some.inj hr
  refine X_ret [.tmp 2] [.bool o1] rfl (ResAll.cons (ResAt.tmp (by kernel_rfl)) ResAll.nil) ?_
  exact ⟨m1, rfl, hm, st⟩
 ·intro K
  clear hrK
  refine WO_seg 1 [(3, .string p0)] (by kernel_rfl) (by kernel_rfl) ?_
  replace hr := bindS hr
  obtain ⟨y1, hx1, hr⟩ := hr
  refine WO_one rfl (One_fn 4 17 #[.string p0] (by kernel_rfl) rfl ?_)
  refine (lexer_Path_ok st hx1).mono ?_
  clear st
  rintro _ w2 ⟨m2, rfl, hle1, st⟩
  refine ⟨_, rfl, ?_⟩
  have hm := Mem.le_trans hm hle1
  refine WO_seg 1 [(5, .bool y1)] (by kernel_rfl) (by kernel_rfl) ?_
  rcases bcases y1 with hc | hc
  ·rw [if_pos hc] at hr
   refine WO_fact (t := 5) (b := true) y1 (by kernel_rfl) hc ?_
   refine WO_seg 5 [(10, .bool (decide ((ByteArray.size p0 : Int) > 4)))] (by kernel_rfl) (by kernel_rfl) ?_
   rcases bcases (decide ((ByteArray.size p0 : Int) > 4)) with hc | hc
   ·rw [if_pos hc] at hr
    refine WO_fact (t := 10) (b := true) (decide ((ByteArray.size p0 : Int) > 4)) (by kernel_rfl) hc ?_
    refine WO_seg 1 [(11, .string p0)] (by kernel_rfl) (by kernel_rfl) ?_
    replace hr := bindS hr
    obtain ⟨y2, hx2, hr⟩ := hr
    refine WO_one rfl (One_fn 12 59 #[.string p0, .string (⟨#[46, 115, 114, 99]⟩ : ByteArray)] (by kernel_rfl) rfl ?_)
    refine (strings_HasSuffix_ok st hx2).mono ?_
    clear st
    rintro _ w3 ⟨m3, rfl, hle2, st⟩
    refine ⟨_, rfl, ?_⟩
    have hm := Mem.le_trans hm hle2
    refine WO_seg 2 [(2, .bool y2)] (by kernel_rfl) (by kernel_rfl) ?_
    obtain rfl := Option.some.inj hr
    exact WO_env _ (by kernel_rfl) (K _ _ ⟨m3, rfl, hm, st⟩)
   ·rw [if_neg (not_true hc)] at hr
    refine WO_fact (t := 10) (b := false) (decide ((ByteArray.size p0 : Int) > 4)) (by kernel_rfl) hc ?_
    refine WO_seg 4 [(2, .bool false)] (by kernel_rfl) (by kernel_rfl) ?_
    obtain rfl := Option.some.inj hr
    exact WO_env _ (by kernel_rfl) (K _ _ ⟨m2, rfl, hm, st⟩)
  ·rw [if_neg (not_true hc)] at hr
   refine WO_fact (t := 5) (b := false) y1 (by kernel_rfl) hc ?_
   refine WO_seg 9 [(2, .bool false)] (by kernel_rfl) (by kernel_rfl) ?_
   obtain rfl := Option.some.inj hr
   exact WO_env _ (by kernel_rfl) (K _ _ ⟨m2, rfl, hm, st⟩)

def testgatelaw07_awake (N : Nat) : Option (Bool) :=
 (revision_Put N ([] : List (ByteArray × ByteArray)) (⟨#[97, 46, 115, 114, 99]⟩ : ByteArray) (⟨#[120]⟩ : ByteArray)).bind fun y1 => (revision_Move N y1.1 (⟨#[97, 46, 115, 114, 99]⟩ : ByteArray) (⟨#[98, 46, 115, 114, 99]⟩ : ByteArray)).bind fun y2 => (revision_Find N y2.1 (⟨#[98, 46, 115, 114, 99]⟩ : ByteArray)).bind fun y3 => (revision_Encode N y2.1).bind fun y4 => (revision_Decode N y4.1).bind fun y5 => (if (y1.2 == 0) = true then (if (y2.2 == 0) = true then (if (y4.2 == 0) = true then (if (y5.2 == 0) = true then (if y3.2 = true then (if (y3.1.toList == (⟨#[120]⟩ : ByteArray).toList) = true then ((revision_Same N y2.1 y5.1).bind fun y6 => if y6 = true then ((revision_IsSource N (⟨#[98, 46, 115, 114, 99]⟩ : ByteArray)).bind fun y7 => if y7 = true then ((revision_IsSource N (⟨#[46, 115, 114, 99]⟩ : ByteArray)).bind fun y8 => some (!y8)) else (some false)) else (some false)) else (some false)) else (some false)) else (some false)) else (some false)) else (some false)) else (some false) : Option (Bool)).bind fun o1 => some o1

set_option maxHeartbeats 4000000 in
set_option maxRecDepth 100000 in
theorem testgatelaw07_awake_ok {N : Nat} {m : Mem} {own : List Piece} {w : World} {r : Bool} (st : St m (own) w) (hr : testgatelaw07_awake N = some r) : Calls Go.Proofs.Tryd.prog 40 #[] w fun e w' => ∃ (m' : Mem), e = .returned (.bool r) ∧ m.le m' ∧ St m' (own) w' := by
 unfold testgatelaw07_awake at hr
 have hm := m.le_refl
 refine W_calls Go.Proofs.Tryd.func40 rfl Go.Proofs.Tryd.ntmps40 [] (by kernel_rfl) rfl ?_
 refine W_sr ?_
 refine WO_seg 1 [] (by kernel_rfl) (by kernel_rfl) ?_
 refine WO_et rfl ?_
 refine W_sr ?_
 refine WO_seg 1 [(11, .agg #[.slice none (List.length ([] : List (ByteArray × ByteArray))) 0])] (by kernel_rfl) (by kernel_rfl) ?_
 replace hr := bindS hr
 obtain ⟨y1, hx1, hr⟩ := hr
 refine WO_one rfl (One_fn 12 34 #[.agg #[.slice none (List.length ([] : List (ByteArray × ByteArray))) 0], .string (⟨#[97, 46, 115, 114, 99]⟩ : ByteArray), .string (⟨#[120]⟩ : ByteArray)] (by kernel_rfl) rfl ?_)
 refine (revision_Put_ok st (RepS.nil _ _) hx1).mono ?_
 clear st
 rintro _ w1 ⟨a1, c1, m1, rfl, hle1, st, r1⟩
 refine ⟨_, rfl, ?_⟩
 have hm := Mem.le_trans hm hle1
 refine WO_seg 3 [(13, .agg #[.slice a1 (List.length y1.1) c1]), (14, .int .i64 y1.2)] (by kernel_rfl) (by kernel_rfl) ?_
 refine WO_one rfl (One_alloc (d := 1) (e := 47) (.agg #[.slice none 0 0]) (by kernel_rfl) rfl (by kernel_rfl) st ?_)
 clear st
 intro b1 w2 st
 refine WO_one rfl (One_store (t := 47) (x := (.tmp 1)) (y := (.tmp 13)) (v := .agg #[.slice a1 (List.length y1.1) c1]) (c' := #[.slice a1 (List.length y1.1) c1]) (by kernel_rfl) (show evL _ _ = some (.pointer (some ⟨b1, 0, none⟩)) from (by kernel_rfl)) (show evL _ _ = some (.agg #[.slice a1 (List.length y1.1) c1]) from (by kernel_rfl)) st (by kernel_rfl) (by kernel_rfl) ?_)
 clear st
 intro w3 st
 refine WO_seg 1 [(2, .int .i64 y1.2)] (by kernel_rfl) (by kernel_rfl) ?_
 refine WO_et rfl ?_
 refine W_sr ?_
 refine WO_one rfl (One_load_own (d := 16) (t := 47) (x := (.tmp 1)) (.agg #[.slice a1 (List.length y1.1) c1]) (by kernel_rfl) rfl (show evL _ _ = some (.pointer (some ⟨b1, 0, none⟩)) from (by kernel_rfl)) st.head (by kernel_rfl) ?_)
 replace hr := bindS hr
 obtain ⟨y2, hx2, hr⟩ := hr
 refine WO_one rfl (One_fn 17 38 #[.agg #[.slice a1 (List.length y1.1) c1], .string (⟨#[97, 46, 115, 114, 99]⟩ : ByteArray), .string (⟨#[98, 46, 115, 114, 99]⟩ : ByteArray)] (by kernel_rfl) rfl ?_)
 refine (revision_Move_ok st r1 hx2).mono ?_
 clear st
 rintro _ w4 ⟨a2, c2, m2, rfl, hle2, st, r2⟩
 refine ⟨_, rfl, ?_⟩
 have hm := Mem.le_trans hm hle2
 have r1 := r1.mono hle2
 refine WO_seg 3 [(18, .agg #[.slice a2 (List.length y2.1) c2]), (19, .int .i64 y2.2)] (by kernel_rfl) (by kernel_rfl) ?_
 have st := st.front1
 refine WO_one rfl (One_store (t := 47) (x := (.tmp 1)) (y := (.tmp 18)) (v := .agg #[.slice a2 (List.length y2.1) c2]) (c' := #[.slice a2 (List.length y2.1) c2]) (by kernel_rfl) (show evL _ _ = some (.pointer (some ⟨b1, 0, none⟩)) from (by kernel_rfl)) (show evL _ _ = some (.agg #[.slice a2 (List.length y2.1) c2]) from (by kernel_rfl)) st (by kernel_rfl) (by kernel_rfl) ?_)
 clear st
 intro w5 st
 refine WO_seg 1 [(3, .int .i64 y2.2)] (by kernel_rfl) (by kernel_rfl) ?_
 refine WO_end rfl ?_
 have st := st.front2
 have st := st.tail
 refine X_then ?_
 refine W_sr ?_
 refine WO_one rfl (One_load_own (d := 21) (t := 47) (x := (.tmp 1)) (.agg #[.slice a2 (List.length y2.1) c2]) (by kernel_rfl) rfl (show evL _ _ = some (.pointer (some ⟨b1, 0, none⟩)) from (by kernel_rfl)) st.head (by kernel_rfl) ?_)
 replace hr := bindS hr
 obtain ⟨y3, hx3, hr⟩ := hr
 refine WO_one rfl (One_fn 22 30 #[.agg #[.slice a2 (List.length y2.1) c2], .string (⟨#[98, 46, 115, 114, 99]⟩ : ByteArray)] (by kernel_rfl) rfl ?_)
 refine (revision_Find_ok st r2 hx3).mono ?_
 clear st
 rintro _ w6 ⟨m3, rfl, hle3, st⟩
 refine ⟨_, rfl, ?_⟩
 have hm := Mem.le_trans hm hle3
 have r2 := r2.mono hle3
 refine WO_seg 5 [(4, .string y3.1), (5, .bool y3.2)] (by kernel_rfl) (by kernel_rfl) ?_
 refine WO_et rfl ?_
 refine W_sr ?_
 refine WO_one rfl (One_load_own (d := 26) (t := 47) (x := (.tmp 1)) (.agg #[.slice a2 (List.length y2.1) c2]) (by kernel_rfl) rfl (show evL _ _ = some (.pointer (some ⟨b1, 0, none⟩)) from (by kernel_rfl)) st.head (by kernel_rfl) ?_)
 replace hr := bindS hr
 obtain ⟨y4, hx4, hr⟩ := hr
 refine WO_one rfl (One_fn 27 41 #[.agg #[.slice a2 (List.length y2.1) c2]] (by kernel_rfl) rfl ?_)
 refine (revision_Encode_ok st r2 hx4).mono ?_
 clear st
 rintro _ w7 ⟨a3, c3, m4, rfl, hle4, st, r3⟩
 refine ⟨_, rfl, ?_⟩
 have hm := Mem.le_trans hm hle4
 have r2 := r2.mono hle4
 refine WO_seg 5 [(6, .slice a3 (List.length y4.1) c3), (7, .int .i64 y4.2)] (by kernel_rfl) (by kernel_rfl) ?_
 refine WO_et rfl ?_
 refine W_sr ?_
 refine WO_seg 1 [(31, .slice a3 (List.length y4.1) c3)] (by kernel_rfl) (by kernel_rfl) ?_
 replace hr := bindS hr
 obtain ⟨y5, hx5, hr⟩ := hr
 refine WO_one rfl (One_fn 32 46 #[.slice a3 (List.length y4.1) c3] (by kernel_rfl) rfl ?_)
 refine (revision_Decode_ok st r3 hx5).mono ?_
 clear st
 rintro _ w8 ⟨a4, c4, m5, rfl, hle5, st, r4⟩
 refine ⟨_, rfl, ?_⟩
 have hm := Mem.le_trans hm hle5
 have r3 := r3.mono hle5
 have r2 := r2.mono hle5
 refine WO_seg 3 [(33, .agg #[.slice a4 (List.length y5.1) c4]), (34, .int .i64 y5.2)] (by kernel_rfl) (by kernel_rfl) ?_
 refine WO_one rfl (One_alloc (d := 8) (e := 47) (.agg #[.slice none 0 0]) (by kernel_rfl) rfl (by kernel_rfl) st ?_)
 clear st
 intro b2 w9 st
 refine WO_one rfl (One_store (t := 47) (x := (.tmp 8)) (y := (.tmp 33)) (v := .agg #[.slice a4 (List.length y5.1) c4]) (c' := #[.slice a4 (List.length y5.1) c4]) (by kernel_rfl) (show evL _ _ = some (.pointer (some ⟨b2, 0, none⟩)) from (by kernel_rfl)) (show evL _ _ = some (.agg #[.slice a4 (List.length y5.1) c4]) from (by kernel_rfl)) st (by kernel_rfl) (by kernel_rfl) ?_)
 clear st
 intro w10 st
 refine WO_seg 1 [(9, .int .i64 y5.2)] (by kernel_rfl) (by kernel_rfl) ?_
 refine WO_end rfl ?_
 have st := st.front2
 have st := st.tail
 refine X_then ?_
 refine W_sr ?_
 replace hr := bindS hr
 obtain ⟨o1, hr, hrK⟩ := hr
 refine WO_cut (j := 34) (fun L' w' => ∃ (m6 : Mem), L' = [(0, .bool o1)] ∧ m.le m6 ∧ St m6 (.blk b2 (.cells #[.slice a4 (List.length y5.1) c4] 47 (0, 0)) :: .blk b1 (.cells #[.slice a2 (List.length y2.1) c2] 47 (0, 0)) :: .room a4 (List.length y5.1) c4 66 2 :: .room a2 (List.length y2.1) c2 66 2 :: own) w' ∧ RepS (cPair cStr cStr) m6 a4 c4 y5.1 ∧ RepS (cPair cStr cStr) m6 a2 c2 y2.1) ?_ ?_
 ·clear hr st
  have hr := hrK
  clear hrK
  rintro _ w11 ⟨m6, rfl, hm, st, r4, r2⟩
  refine WO_et rfl ?_
  refine W_ret ?_
  obtain rfl := Option.some.inj hr
  refine X_ret [.tmp 0] [.bool o1] rfl (ResAll.cons (ResAt.tmp (by kernel_rfl)) ResAll.nil) ?_
  have st := st.tail
  have st := st.tail
  have st := st.tail
  have st := st.tail
  exact ⟨m6, rfl, hm, st⟩
 ·intro K
  clear hrK
  refine WO_seg 3 [(37, .bool (y1.2 == 0))] (by kernel_rfl) (by kernel_rfl) ?_
  rcases bcases (y1.2 == 0) with hc | hc
  ·rw [if_pos hc] at hr
   refine WO_fact (t := 37) (b := true) (y1.2 == 0) (by kernel_rfl) hc ?_
   refine WO_seg 4 [(41, .bool (y2.2 == 0))] (by kernel_rfl) (by kernel_rfl) ?_
   rcases bcases (y2.2 == 0) with hc | hc
   ·rw [if_pos hc] at hr
    refine WO_fact (t := 41) (b := true) (y2.2 == 0) (by kernel_rfl) hc ?_
    refine WO_seg 4 [(45, .bool (y4.2 == 0))] (by kernel_rfl) (by kernel_rfl) ?_
    rcases bcases (y4.2 == 0) with hc | hc
    ·rw [if_pos hc] at hr
     refine WO_fact (t := 45) (b := true) (y4.2 == 0) (by kernel_rfl) hc ?_
     refine WO_seg 4 [(49, .bool (y5.2 == 0))] (by kernel_rfl) (by kernel_rfl) ?_
     rcases bcases (y5.2 == 0) with hc | hc
     ·rw [if_pos hc] at hr
      refine WO_fact (t := 49) (b := true) (y5.2 == 0) (by kernel_rfl) hc ?_
      refine WO_seg 3 [(52, .bool y3.2)] (by kernel_rfl) (by kernel_rfl) ?_
      rcases bcases y3.2 with hc | hc
      ·rw [if_pos hc] at hr
       refine WO_fact (t := 52) (b := true) y3.2 (by kernel_rfl) hc ?_
       refine WO_seg 4 [(56, .bool (y3.1.toList == (⟨#[120]⟩ : ByteArray).toList))] (by kernel_rfl) (by kernel_rfl) ?_
       rcases bcases (y3.1.toList == (⟨#[120]⟩ : ByteArray).toList) with hc | hc
       ·rw [if_pos hc] at hr
        refine WO_fact (t := 56) (b := true) (y3.1.toList == (⟨#[120]⟩ : ByteArray).toList) (by kernel_rfl) hc ?_
        refine WO_one rfl (One_load_own (d := 57) (t := 47) (x := (.tmp 1)) (.agg #[.slice a2 (List.length y2.1) c2]) (by kernel_rfl) rfl (show evL _ _ = some (.pointer (some ⟨b1, 0, none⟩)) from (by kernel_rfl)) st.tail.tail.head (by kernel_rfl) ?_)
        refine WO_one rfl (One_load_own (d := 58) (t := 47) (x := (.tmp 8)) (.agg #[.slice a4 (List.length y5.1) c4]) (by kernel_rfl) rfl (show evL _ _ = some (.pointer (some ⟨b2, 0, none⟩)) from (by kernel_rfl)) st.head (by kernel_rfl) ?_)
        replace hr := bindS hr
        obtain ⟨y6, hx6, hr⟩ := hr
        refine WO_one rfl (One_fn 59 28 #[.agg #[.slice a2 (List.length y2.1) c2], .agg #[.slice a4 (List.length y5.1) c4]] (by kernel_rfl) rfl ?_)
        refine (revision_Same_ok st r2 r4 hx6).mono ?_
        clear st
        rintro _ w12 ⟨m7, rfl, hle6, st⟩
        refine ⟨_, rfl, ?_⟩
        have hm := Mem.le_trans hm hle6
        have r2 := r2.mono hle6
        have r4 := r4.mono hle6
        refine WO_seg 2 [(61, .bool y6)] (by kernel_rfl) (by kernel_rfl) ?_
        rcases bcases y6 with hc | hc
        ·rw [if_pos hc] at hr
         refine WO_fact (t := 61) (b := true) y6 (by kernel_rfl) hc ?_
         replace hr := bindS hr
         obtain ⟨y7, hx7, hr⟩ := hr
         refine WO_one rfl (One_fn 62 32 #[.string (⟨#[98, 46, 115, 114, 99]⟩ : ByteArray)] (by kernel_rfl) rfl ?_)
         refine (revision_IsSource_ok st hx7).mono ?_
         clear st
         rintro _ w13 ⟨m8, rfl, hle7, st⟩
         refine ⟨_, rfl, ?_⟩
         have hm := Mem.le_trans hm hle7
         have r2 := r2.mono hle7
         have r4 := r4.mono hle7
         refine WO_seg 2 [(64, .bool y7)] (by kernel_rfl) (by kernel_rfl) ?_
         rcases bcases y7 with hc | hc
         ·rw [if_pos hc] at hr
          refine WO_fact (t := 64) (b := true) y7 (by kernel_rfl) hc ?_
          replace hr := bindS hr
          obtain ⟨y8, hx8, hr⟩ := hr
          refine WO_one rfl (One_fn 65 32 #[.string (⟨#[46, 115, 114, 99]⟩ : ByteArray)] (by kernel_rfl) rfl ?_)
          refine (revision_IsSource_ok st hx8).mono ?_
          clear st
          rintro _ w14 ⟨m9, rfl, hle8, st⟩
          refine ⟨_, rfl, ?_⟩
          have hm := Mem.le_trans hm hle8
          have r2 := r2.mono hle8
          have r4 := r4.mono hle8
          refine WO_seg 3 [(0, .bool (!y8))] (by kernel_rfl) (by kernel_rfl) ?_
          obtain rfl := Option.some.inj hr
          have st := st.front3
          have st := st.front2
          have st := st.front3
          have st := st.front3
          exact WO_env _ (by kernel_rfl) (K _ _ ⟨m9, rfl, hm, st, r4, r2⟩)
         ·rw [if_neg (not_true hc)] at hr
          refine WO_fact (t := 64) (b := false) y7 (by kernel_rfl) hc ?_
          refine WO_seg 4 [(0, .bool false)] (by kernel_rfl) (by kernel_rfl) ?_
          obtain rfl := Option.some.inj hr
          have st := st.front3
          have st := st.front2
          have st := st.front3
          have st := st.front3
          exact WO_env _ (by kernel_rfl) (K _ _ ⟨m8, rfl, hm, st, r4, r2⟩)
        ·rw [if_neg (not_true hc)] at hr
         refine WO_fact (t := 61) (b := false) y6 (by kernel_rfl) hc ?_
         refine WO_seg 7 [(0, .bool false)] (by kernel_rfl) (by kernel_rfl) ?_
         obtain rfl := Option.some.inj hr
         have st := st.front3
         have st := st.front2
         have st := st.front3
         have st := st.front3
         exact WO_env _ (by kernel_rfl) (K _ _ ⟨m7, rfl, hm, st, r4, r2⟩)
       ·rw [if_neg (not_true hc)] at hr
        refine WO_fact (t := 56) (b := false) (y3.1.toList == (⟨#[120]⟩ : ByteArray).toList) (by kernel_rfl) hc ?_
        refine WO_seg 12 [(0, .bool false)] (by kernel_rfl) (by kernel_rfl) ?_
        obtain rfl := Option.some.inj hr
        have st := st.front3
        have st := st.front2
        have st := st.front3
        have st := st.front3
        exact WO_env _ (by kernel_rfl) (K _ _ ⟨m5, rfl, hm, st, r4, r2⟩)
      ·rw [if_neg (not_true hc)] at hr
       refine WO_fact (t := 52) (b := false) y3.2 (by kernel_rfl) hc ?_
       refine WO_seg 16 [(0, .bool false)] (by kernel_rfl) (by kernel_rfl) ?_
       obtain rfl := Option.some.inj hr
       have st := st.front3
       have st := st.front2
       have st := st.front3
       have st := st.front3
       exact WO_env _ (by kernel_rfl) (K _ _ ⟨m5, rfl, hm, st, r4, r2⟩)
     ·rw [if_neg (not_true hc)] at hr
      refine WO_fact (t := 49) (b := false) (y5.2 == 0) (by kernel_rfl) hc ?_
      refine WO_seg 19 [(0, .bool false)] (by kernel_rfl) (by kernel_rfl) ?_
      obtain rfl := Option.some.inj hr
      have st := st.front3
      have st := st.front2
      have st := st.front3
      have st := st.front3
      exact WO_env _ (by kernel_rfl) (K _ _ ⟨m5, rfl, hm, st, r4, r2⟩)
    ·rw [if_neg (not_true hc)] at hr
     refine WO_fact (t := 45) (b := false) (y4.2 == 0) (by kernel_rfl) hc ?_
     refine WO_seg 23 [(0, .bool false)] (by kernel_rfl) (by kernel_rfl) ?_
     obtain rfl := Option.some.inj hr
     have st := st.front3
     have st := st.front2
     have st := st.front3
     have st := st.front3
     exact WO_env _ (by kernel_rfl) (K _ _ ⟨m5, rfl, hm, st, r4, r2⟩)
   ·rw [if_neg (not_true hc)] at hr
    refine WO_fact (t := 41) (b := false) (y2.2 == 0) (by kernel_rfl) hc ?_
    refine WO_seg 27 [(0, .bool false)] (by kernel_rfl) (by kernel_rfl) ?_
    obtain rfl := Option.some.inj hr
    have st := st.front3
    have st := st.front2
    have st := st.front3
    have st := st.front3
    exact WO_env _ (by kernel_rfl) (K _ _ ⟨m5, rfl, hm, st, r4, r2⟩)
  ·rw [if_neg (not_true hc)] at hr
   refine WO_fact (t := 37) (b := false) (y1.2 == 0) (by kernel_rfl) hc ?_
   refine WO_seg 31 [(0, .bool false)] (by kernel_rfl) (by kernel_rfl) ?_
   obtain rfl := Option.some.inj hr
   have st := st.front3
   have st := st.front2
   have st := st.front3
   have st := st.front3
   exact WO_env _ (by kernel_rfl) (K _ _ ⟨m5, rfl, hm, st, r4, r2⟩)

def testgatelaw07_RevisionMoves_L1 (N : Nat) (y1 : (List Int × Int) × ((List (ByteArray × ByteArray)))) (o1 : ByteArray) (s2 : Int) : Option ((Int) ⊕ ((Unit) ⊕ (Bool))) :=
 if (decide (s2 < (List.length y1.2 : Int))) = true then ((idx y1.2 s2).bind fun x1 => (revision_Move N y1.2 x1.1 (⟨#[122, 122, 47, 110, 101, 119]⟩ : ByteArray)).bind fun y2 => (revision_Move N y2.1 (⟨#[122, 122, 47, 110, 101, 119]⟩ : ByteArray) x1.1).bind fun y3 => (revision_Remove N y1.2 x1.1).bind fun y4 => (revision_Put N y4.1 (⟨#[122, 122, 47, 110, 101, 119]⟩ : ByteArray) o1).bind fun y5 => (revision_Put N y1.2 (⟨#[122, 122, 47, 110, 101, 119]⟩ : ByteArray) o1).bind fun y6 => (revision_Remove N y6.1 x1.1).bind fun y7 => (if (y2.2 != 0) = true then (some true) else (if (y3.2 != 0) = true then (some true) else (if (y4.2 != 0) = true then (some true) else (if (y5.2 != 0) = true then (some true) else (if (y6.2 != 0) = true then (some true) else (if (y7.2 != 0) = true then (some true) else ((testgateref07_Same N y1.2 y3.1).bind fun y8 => if (!y8) = true then (some true) else ((testgateref07_Same N y5.1 y7.1).bind fun y9 => some (!y9)))))))) : Option (Bool)).bind fun o3 => if o3 = true then (some (.inr (.inr (false)))) else (some (.inl (IntKind.wrap .i64 (s2 + 1))))) else (some (.inr (.inl ())))

def testgatelaw07_RevisionMoves (N : Nat) (p0 : List Int) (p1 : ByteArray) : Option (Bool) :=
 (testgatemake_Revision N (p0, 0)).bind fun y1 => (if (decide ((ByteArray.size p1 : Int) > 100)) = true then ((subB p1 0 100).bind fun s1 => some s1) else (some p1) : Option (ByteArray)).bind fun o1 => (loopM (testgatelaw07_RevisionMoves_L1 N y1 o1) N 0).bind fun out1 => (match out1 with | .inl o2 => (revision_Put N y1.2 (⟨#[122, 122, 47, 110, 101, 119]⟩ : ByteArray) o1).bind fun y10 => (revision_Remove N y10.1 (⟨#[122, 122, 47, 110, 101, 119]⟩ : ByteArray)).bind fun y11 => (if (y10.2 == 0) = true then (if (y11.2 == 0) = true then ((testgateref07_Same N y1.2 y11.1).bind fun y12 => if y12 = true then ((testgatelaw07_awake N).bind fun y13 => some y13) else (some false)) else (some false)) else (some false) : Option (Bool)).bind fun o4 => some o4 | .inr (z) => some z)

set_option maxHeartbeats 4000000 in
set_option maxRecDepth 100000 in
theorem testgatelaw07_RevisionMoves_ok {N : Nat} {m : Mem} {own : List Piece} {w : World} {p0 : List Int} {p1 : ByteArray} {a1 : Option Addr} {c1 : Nat} {r : Bool} (st : St m (own) w) (r1 : RepS (cInt .i64) m a1 c1 p0) (hr : testgatelaw07_RevisionMoves N p0 p1 = some r) : Calls Go.Proofs.Tryd.prog 12 #[.slice a1 (List.length p0) c1, .string p1] w fun e w' => ∃ (m' : Mem), e = .returned (.bool r) ∧ m.le m' ∧ St m' (own) w' := by
 unfold testgatelaw07_RevisionMoves at hr
 have hm := m.le_refl
 refine W_calls Go.Proofs.Tryd.func12 rfl Go.Proofs.Tryd.ntmps12 [(0, .slice a1 (List.length p0) c1), (1, .string p1)] (by kernel_rfl) rfl ?_
 refine W_sr ?_
 refine WO_seg 1 [] (by kernel_rfl) (by kernel_rfl) ?_
 refine WO_et rfl ?_
 refine W_sr ?_
 refine WO_seg 2 [(24, .agg #[.slice a1 (List.length p0) c1, .int .i64 0])] (by kernel_rfl) (by kernel_rfl) ?_
 refine WO_one rfl (One_box_own (d := 25) (e := 29) (x := (.tmp 24)) (.agg #[.slice a1 (List.length p0) c1, .int .i64 0]) (by kernel_rfl) rfl (by kernel_rfl) st ?_)
 clear st
 intro b1 w1 st
 refine WO_seg 1 [(5, .pointer (some ⟨b1, 0, none⟩))] (by kernel_rfl) (by kernel_rfl) ?_
 refine WO_et rfl ?_
 refine W_sr ?_
 refine WO_seg 1 [(26, .pointer (some ⟨b1, 0, none⟩))] (by kernel_rfl) (by kernel_rfl) ?_
 replace hr := bindS hr
 obtain ⟨y1, hx1, hr⟩ := hr
 refine WO_one rfl (One_fn 27 45 #[.pointer (some ⟨b1, 0, none⟩)] (by kernel_rfl) rfl ?_)
 refine (testgatemake_Revision_ok st r1 hx1).mono ?_
 clear st
 rintro _ w2 ⟨a2, c2, a3, c3, m2, rfl, hle2, st, r2, r3⟩
 refine ⟨_, rfl, ?_⟩
 have hm := Mem.le_trans hm hle2
 have r1 := r1.mono hle2
 refine WO_one rfl (One_alloc (d := 6) (e := 47) (.agg #[.slice none 0 0]) (by kernel_rfl) rfl (by kernel_rfl) st ?_)
 clear st
 intro b2 w3 st
 refine WO_one rfl (One_store (t := 47) (x := (.tmp 6)) (y := (.tmp 27)) (v := .agg #[.slice a3 (List.length y1.2) c3]) (c' := #[.slice a3 (List.length y1.2) c3]) (by kernel_rfl) (show evL _ _ = some (.pointer (some ⟨b2, 0, none⟩)) from (by kernel_rfl)) (show evL _ _ = some (.agg #[.slice a3 (List.length y1.2) c3]) from (by kernel_rfl)) st (by kernel_rfl) (by kernel_rfl) ?_)
 clear st
 intro w4 st
 refine WO_et rfl ?_
 refine W_seq ?_
 refine W_sr ?_
 refine WO_seg 3 [(30, .bool (decide ((ByteArray.size p1 : Int) > 100)))] (by kernel_rfl) (by kernel_rfl) ?_
 refine WO_et rfl ?_
 replace hr := bindS hr
 obtain ⟨o1, hr, hrKu1⟩ := hr
 refine W_cut .normal (fun L' w' => ∃ (m3 : Mem), L' = [(1, .string o1), (6, .pointer (some ⟨b2, 0, none⟩))] ∧ m.le m3 ∧ St m3 (.blk b2 (.cells #[.slice a3 (List.length y1.2) c3] 47 (0, 0)) :: .blk b1 (.cells #[.slice a2 (List.length y1.1.1) c2, .int .i64 y1.1.2] 29 (0, 0)) :: .room a3 (List.length y1.2) c3 66 2 :: own) w' ∧ RepS (cPair cStr cStr) m3 a3 c3 y1.2 ∧ RepS (cInt .i64) m3 a2 c2 y1.1.1) ?_ ?_
 ·clear hr st
  have hr := hrKu1
  clear hrKu1
  rintro _ w5 ⟨m3, rfl, hm, st, r3, r2⟩
  refine X_then ?_
  refine W_seq ?_
  refine W_sr ?_
  refine WO_seg 1 [(33, .pointer (some ⟨b2, 0, none⟩))] (by kernel_rfl) (by kernel_rfl) ?_
  refine WO_one rfl (One_load_own (d := 34) (t := 45) (x := (.tmp 33)) (.slice a3 (List.length y1.2) c3) (by kernel_rfl) rfl (show evL _ _ = some (.pointer (some ⟨b2, 0, none⟩)) from (by kernel_rfl)) st.head (by kernel_rfl) ?_)
  refine WO_seg 2 [(35, .int .i64 (List.length y1.2 : Int)), (36, .int .i64 0)] (by kernel_rfl) (by kernel_rfl) ?_
  refine WO_et rfl ?_
  refine W_block ?_
  replace hr := bindS hr
  obtain ⟨out1, hr, hrKu2⟩ := hr
  refine W_cut (.exit 0) (fun L' w' => ∃ (o2 : Unit) (m4 : Mem), (.inl o2) = out1 ∧ L' = [(1, .string o1), (6, .pointer (some ⟨b2, 0, none⟩))] ∧ m.le m4 ∧ St m4 (.blk b2 (.cells #[.slice a3 (List.length y1.2) c3] 47 (0, 0)) :: .blk b1 (.cells #[.slice a2 (List.length y1.1.1) c2, .int .i64 y1.1.2] 29 (0, 0)) :: .room a3 (List.length y1.2) c3 66 2 :: own) w' ∧ RepS (cPair cStr cStr) m4 a3 c3 y1.2 ∧ RepS (cInt .i64) m4 a2 c2 y1.1.1) ?_ ?_
  ·clear hr st
   rintro _ w6 ⟨o2, m4, rfl, rfl, hm, st, r3, r2⟩
   have hr := hrKu2
   clear hrKu2
   dsimp only at hr
   refine X_block_eq ?_
   refine X_then ?_
   refine W_sr ?_
   refine WO_one rfl (One_load_own (d := 116) (t := 47) (x := (.tmp 6)) (.agg #[.slice a3 (List.length y1.2) c3]) (by kernel_rfl) rfl (show evL _ _ = some (.pointer (some ⟨b2, 0, none⟩)) from (by kernel_rfl)) st.head (by kernel_rfl) ?_)
   refine WO_seg 1 [(117, .string o1)] (by kernel_rfl) (by kernel_rfl) ?_
   replace hr := bindS hr
   obtain ⟨y10, hx12, hr⟩ := hr
   refine WO_one rfl (One_fn 118 34 #[.agg #[.slice a3 (List.length y1.2) c3], .string (⟨#[122, 122, 47, 110, 101, 119]⟩ : ByteArray), .string o1] (by kernel_rfl) rfl ?_)
   refine (revision_Put_ok st r3 hx12).mono ?_
   clear st
   rintro _ w29 ⟨a10, c10, m15, rfl, hle11, st, r10⟩
   refine ⟨_, rfl, ?_⟩
   have hm := Mem.le_trans hm hle11
   have r3 := r3.mono hle11
   have r2 := r2.mono hle11
   refine WO_seg 3 [(119, .agg #[.slice a10 (List.length y10.1) c10]), (120, .int .i64 y10.2)] (by kernel_rfl) (by kernel_rfl) ?_
   refine WO_one rfl (One_alloc (d := 19) (e := 47) (.agg #[.slice none 0 0]) (by kernel_rfl) rfl (by kernel_rfl) st ?_)
   clear st
   intro b9 w30 st
   refine WO_one rfl (One_store (t := 47) (x := (.tmp 19)) (y := (.tmp 119)) (v := .agg #[.slice a10 (List.length y10.1) c10]) (c' := #[.slice a10 (List.length y10.1) c10]) (by kernel_rfl) (show evL _ _ = some (.pointer (some ⟨b9, 0, none⟩)) from (by kernel_rfl)) (show evL _ _ = some (.agg #[.slice a10 (List.length y10.1) c10]) from (by kernel_rfl)) st (by kernel_rfl) (by kernel_rfl) ?_)
   clear st
   intro w31 st
   refine WO_seg 1 [(20, .int .i64 y10.2)] (by kernel_rfl) (by kernel_rfl) ?_
   refine WO_et rfl ?_
   refine W_sr ?_
   refine WO_one rfl (One_load_own (d := 122) (t := 47) (x := (.tmp 19)) (.agg #[.slice a10 (List.length y10.1) c10]) (by kernel_rfl) rfl (show evL _ _ = some (.pointer (some ⟨b9, 0, none⟩)) from (by kernel_rfl)) st.head (by kernel_rfl) ?_)
   replace hr := bindS hr
   obtain ⟨y11, hx13, hr⟩ := hr
   refine WO_one rfl (One_fn 123 36 #[.agg #[.slice a10 (List.length y10.1) c10], .string (⟨#[122, 122, 47, 110, 101, 119]⟩ : ByteArray)] (by kernel_rfl) rfl ?_)
   refine (revision_Remove_ok st r10 hx13).mono ?_
   clear st
   rintro _ w32 ⟨a11, c11, m16, rfl, hle12, st, r11⟩
   refine ⟨_, rfl, ?_⟩
   have hm := Mem.le_trans hm hle12
   have r10 := r10.mono hle12
   have r3 := r3.mono hle12
   have r2 := r2.mono hle12
   refine WO_seg 3 [(124, .agg #[.slice a11 (List.length y11.1) c11]), (125, .int .i64 y11.2)] (by kernel_rfl) (by kernel_rfl) ?_
   refine WO_one rfl (One_alloc (d := 21) (e := 47) (.agg #[.slice none 0 0]) (by kernel_rfl) rfl (by kernel_rfl) st ?_)
   clear st
   intro b10 w33 st
   refine WO_one rfl (One_store (t := 47) (x := (.tmp 21)) (y := (.tmp 124)) (v := .agg #[.slice a11 (List.length y11.1) c11]) (c' := #[.slice a11 (List.length y11.1) c11]) (by kernel_rfl) (show evL _ _ = some (.pointer (some ⟨b10, 0, none⟩)) from (by kernel_rfl)) (show evL _ _ = some (.agg #[.slice a11 (List.length y11.1) c11]) from (by kernel_rfl)) st (by kernel_rfl) (by kernel_rfl) ?_)
   clear st
   intro w34 st
   refine WO_seg 1 [(22, .int .i64 y11.2)] (by kernel_rfl) (by kernel_rfl) ?_
   refine WO_et rfl ?_
   refine W_sr ?_
   replace hr := bindS hr
   obtain ⟨o4, hr, hrK⟩ := hr
   refine WO_cut (j := 15) (fun L' w' => ∃ (m17 : Mem), L' = [(4, .bool o4)] ∧ m.le m17 ∧ St m17 (.blk b10 (.cells #[.slice a11 (List.length y11.1) c11] 47 (0, 0)) :: .blk b9 (.cells #[.slice a10 (List.length y10.1) c10] 47 (0, 0)) :: .blk b2 (.cells #[.slice a3 (List.length y1.2) c3] 47 (0, 0)) :: .blk b1 (.cells #[.slice a2 (List.length y1.1.1) c2, .int .i64 y1.1.2] 29 (0, 0)) :: .room a11 (List.length y11.1) c11 66 2 :: .room a10 (List.length y10.1) c10 66 2 :: .room a3 (List.length y1.2) c3 66 2 :: own) w' ∧ RepS (cPair cStr cStr) m17 a11 c11 y11.1 ∧ RepS (cPair cStr cStr) m17 a10 c10 y10.1 ∧ RepS (cPair cStr cStr) m17 a3 c3 y1.2 ∧ RepS (cInt .i64) m17 a2 c2 y1.1.1) ?_ ?_
   ·clear hr st
    have hr := hrK
    clear hrK
    rintro _ w35 ⟨m17, rfl, hm, st, r11, r10, r3, r2⟩
    refine WO_et rfl ?_
    refine W_ret ?_
    obtain rfl := Option.some.inj hr
    refine X_ret [.tmp 4] [.bool o4] rfl (ResAll.cons (ResAt.tmp (by kernel_rfl)) ResAll.nil) ?_
    have st := st.tail
    have st := st.tail
    have st := st.tail
    have st := st.tail
    have st := st.tail
    have st := st.tail
    have st := st.tail
    exact ⟨m17, rfl, hm, st⟩
   ·intro K
    clear hrK
    refine WO_seg 3 [(128, .bool (y10.2 == 0))] (by kernel_rfl) (by kernel_rfl) ?_
    rcases bcases (y10.2 == 0) with hc | hc
    ·rw [if_pos hc] at hr
     refine WO_fact (t := 128) (b := true) (y10.2 == 0) (by kernel_rfl) hc ?_
     refine WO_seg 4 [(132, .bool (y11.2 == 0))] (by kernel_rfl) (by kernel_rfl) ?_
     rcases bcases (y11.2 == 0) with hc | hc
     ·rw [if_pos hc] at hr
      refine WO_fact (t := 132) (b := true) (y11.2 == 0) (by kernel_rfl) hc ?_
      refine WO_one rfl (One_load_own (d := 133) (t := 47) (x := (.tmp 6)) (.agg #[.slice a3 (List.length y1.2) c3]) (by kernel_rfl) rfl (show evL _ _ = some (.pointer (some ⟨b2, 0, none⟩)) from (by kernel_rfl)) st.tail.tail.tail.tail.head (by kernel_rfl) ?_)
      refine WO_one rfl (One_load_own (d := 134) (t := 47) (x := (.tmp 21)) (.agg #[.slice a11 (List.length y11.1) c11]) (by kernel_rfl) rfl (show evL _ _ = some (.pointer (some ⟨b10, 0, none⟩)) from (by kernel_rfl)) st.head (by kernel_rfl) ?_)
      replace hr := bindS hr
      obtain ⟨y12, hx14, hr⟩ := hr
      refine WO_one rfl (One_fn 135 29 #[.agg #[.slice a3 (List.length y1.2) c3], .agg #[.slice a11 (List.length y11.1) c11]] (by kernel_rfl) rfl ?_)
      refine (testgateref07_Same_ok st r3 r11 hx14).mono ?_
      clear st
      rintro _ w36 ⟨m18, rfl, hle13, st⟩
      refine ⟨_, rfl, ?_⟩
      have hm := Mem.le_trans hm hle13
      have r3 := r3.mono hle13
      have r11 := r11.mono hle13
      have r10 := r10.mono hle13
      have r2 := r2.mono hle13
      refine WO_seg 2 [(137, .bool y12)] (by kernel_rfl) (by kernel_rfl) ?_
      rcases bcases y12 with hc | hc
      ·rw [if_pos hc] at hr
       refine WO_fact (t := 137) (b := true) y12 (by kernel_rfl) hc ?_
       replace hr := bindS hr
       obtain ⟨y13, hx15, hr⟩ := hr
       refine WO_one rfl (One_fn 138 40 #[] (by kernel_rfl) rfl ?_)
       refine (testgatelaw07_awake_ok st hx15).mono ?_
       clear st
       rintro _ w37 ⟨m19, rfl, hle14, st⟩
       refine ⟨_, rfl, ?_⟩
       have hm := Mem.le_trans hm hle14
       have r3 := r3.mono hle14
       have r11 := r11.mono hle14
       have r10 := r10.mono hle14
       have r2 := r2.mono hle14
       refine WO_seg 2 [(4, .bool y13)] (by kernel_rfl) (by kernel_rfl) ?_
       obtain rfl := Option.some.inj hr
       have st := st.front6
       have st := st.front4
       have st := st.front3
       have st := st.front6
       have st := st.front6
       have st := st.front6
       have st := st.front6
       exact WO_env _ (by kernel_rfl) (K _ _ ⟨m19, rfl, hm, st, r11, r10, r3, r2⟩)
      ·rw [if_neg (not_true hc)] at hr
       refine WO_fact (t := 137) (b := false) y12 (by kernel_rfl) hc ?_
       refine WO_seg 3 [(4, .bool false)] (by kernel_rfl) (by kernel_rfl) ?_
       obtain rfl := Option.some.inj hr
       have st := st.front6
       have st := st.front4
       have st := st.front3
       have st := st.front6
       have st := st.front6
       have st := st.front6
       have st := st.front6
       exact WO_env _ (by kernel_rfl) (K _ _ ⟨m18, rfl, hm, st, r11, r10, r3, r2⟩)
     ·rw [if_neg (not_true hc)] at hr
      refine WO_fact (t := 132) (b := false) (y11.2 == 0) (by kernel_rfl) hc ?_
      refine WO_seg 8 [(4, .bool false)] (by kernel_rfl) (by kernel_rfl) ?_
      obtain rfl := Option.some.inj hr
      have st := st.front6
      have st := st.front4
      have st := st.front3
      have st := st.front6
      have st := st.front6
      have st := st.front6
      have st := st.front6
      exact WO_env _ (by kernel_rfl) (K _ _ ⟨m16, rfl, hm, st, r11, r10, r3, r2⟩)
    ·rw [if_neg (not_true hc)] at hr
     refine WO_fact (t := 128) (b := false) (y10.2 == 0) (by kernel_rfl) hc ?_
     refine WO_seg 12 [(4, .bool false)] (by kernel_rfl) (by kernel_rfl) ?_
     obtain rfl := Option.some.inj hr
     have st := st.front6
     have st := st.front4
     have st := st.front3
     have st := st.front6
     have st := st.front6
     have st := st.front6
     have st := st.front6
     exact WO_env _ (by kernel_rfl) (K _ _ ⟨m16, rfl, hm, st, r11, r10, r3, r2⟩)
  intro K0_u2
  have st := st.front2
  have st := st.front2
  have st := st.front2
  refine W_env _ (by kernel_rfl) (W_loop (fun k1 L' w' => ∃ (s2 : Int) (m5 : Mem), loopM (testgatelaw07_RevisionMoves_L1 N y1 o1) k1 s2 = some out1 ∧ L' = [(1, .string o1), (6, .pointer (some ⟨b2, 0, none⟩)), (34, .slice a3 (List.length y1.2) c3), (35, .int .i64 (List.length y1.2 : Int)), (36, .int .i64 s2)] ∧ m.le m5 ∧ St m5 (.blk b2 (.cells #[.slice a3 (List.length y1.2) c3] 47 (0, 0)) :: .blk b1 (.cells #[.slice a2 (List.length y1.1.1) c2, .int .i64 y1.1.2] 29 (0, 0)) :: .room a3 (List.length y1.2) c3 66 2 :: own) w' ∧ RepS (cPair cStr cStr) m5 a3 c3 y1.2 ∧ RepS (cInt .i64) m5 a2 c2 y1.1.1) N ⟨0, m3, hr, rfl, hm, st, r3, r2⟩ ?_)
  clear st hr
  rintro k1 _ w7 ⟨s2, m5, hL, rfl, hm, st, r3, r2⟩
  rcases k1 with _ | k1
  ·exact loopM_zero hL
  ·obtain ⟨qu2, hr, hSu2, hBu2⟩ := loopM_succ hL
   clear hL
   unfold testgatelaw07_RevisionMoves_L1 at hr
   refine W_sr ?_
   refine WO_seg 1 [(37, .bool (decide (s2 < (List.length y1.2 : Int))))] (by kernel_rfl) (by kernel_rfl) ?_
   refine WO_et rfl ?_
   refine W_seq ?_
   refine W_cond (decide (s2 < (List.length y1.2 : Int))) (by kernel_rfl) ?_ ?_
   ·intro hc
    rw [if_pos hc] at hr
    refine W_skip ?_
    refine X_then ?_
    refine W_seq ?_
    refine W_block ?_
    refine W_sr ?_
    replace hr := bindS hr
    obtain ⟨x1, hx3, hr⟩ := hr
    refine WO_one rfl (One_index (d := 38) (t := 45) (e := 66) (x := (.tmp 34)) (y := (.tmp 36)) (cPair cStr cStr) (by kernel_rfl) rfl (show evL _ _ = some (.slice a3 (List.length y1.2) c3) from (by kernel_rfl)) (show evL _ _ = some (.int .i64 s2) from (by kernel_rfl)) (by kernel_rfl) r3 hx3 ?_)
    rintro b3 f1 cs1 ⟨_, _, rfl, rfl, rfl⟩ hq1
    refine WO_one rfl (One_load_row (d := 39) (t := 66) (x := (.tmp 38)) (.agg #[.string x1.1, .string x1.2]) (by kernel_rfl) rfl (show evL _ _ = some (.pointer (some ⟨b3, f1, none⟩)) from (by kernel_rfl)) st hq1 (by kernel_rfl) ?_)
    refine WO_one rfl (One_alloc (d := 8) (e := 66) (.agg #[.string (⟨#[]⟩ : ByteArray), .string (⟨#[]⟩ : ByteArray)]) (by kernel_rfl) rfl (by kernel_rfl) st ?_)
    clear st
    intro b4 w8 st
    refine WO_one rfl (One_store (t := 66) (x := (.tmp 8)) (y := (.tmp 39)) (v := .agg #[.string x1.1, .string x1.2]) (c' := #[.string x1.1, .string x1.2]) (by kernel_rfl) (show evL _ _ = some (.pointer (some ⟨b4, 0, none⟩)) from (by kernel_rfl)) (show evL _ _ = some (.agg #[.string x1.1, .string x1.2]) from (by kernel_rfl)) st (by kernel_rfl) (by kernel_rfl) ?_)
    clear st
    intro w9 st
    refine WO_et rfl ?_
    refine W_sr ?_
    refine WO_one rfl (One_load_own (d := 41) (t := 47) (x := (.tmp 6)) (.agg #[.slice a3 (List.length y1.2) c3]) (by kernel_rfl) rfl (show evL _ _ = some (.pointer (some ⟨b2, 0, none⟩)) from (by kernel_rfl)) st.tail.head (by kernel_rfl) ?_)
    refine WO_seg 1 [(42, .pointer (some ⟨b4, 0, none⟩))] (by kernel_rfl) (by kernel_rfl) ?_
    refine WO_one rfl (One_load_own (d := 43) (t := 9) (x := (.tmp 42)) (.string x1.1) (by kernel_rfl) rfl (show evL _ _ = some (.pointer (some ⟨b4, 0, none⟩)) from (by kernel_rfl)) st.head (by kernel_rfl) ?_)
    replace hr := bindS hr
    obtain ⟨y2, hx4, hr⟩ := hr
    refine WO_one rfl (One_fn 44 38 #[.agg #[.slice a3 (List.length y1.2) c3], .string x1.1, .string (⟨#[122, 122, 47, 110, 101, 119]⟩ : ByteArray)] (by kernel_rfl) rfl ?_)
    refine (revision_Move_ok st r3 hx4).mono ?_
    clear st
    rintro _ w10 ⟨a4, c4, m6, rfl, hle3, st, r4⟩
    refine ⟨_, rfl, ?_⟩
    have hm := Mem.le_trans hm hle3
    have r3 := r3.mono hle3
    have r2 := r2.mono hle3
    refine WO_seg 3 [(45, .agg #[.slice a4 (List.length y2.1) c4]), (46, .int .i64 y2.2)] (by kernel_rfl) (by kernel_rfl) ?_
    refine WO_one rfl (One_alloc (d := 9) (e := 47) (.agg #[.slice none 0 0]) (by kernel_rfl) rfl (by kernel_rfl) st ?_)
    clear st
    intro b5 w11 st
    refine WO_one rfl (One_store (t := 47) (x := (.tmp 9)) (y := (.tmp 45)) (v := .agg #[.slice a4 (List.length y2.1) c4]) (c' := #[.slice a4 (List.length y2.1) c4]) (by kernel_rfl) (show evL _ _ = some (.pointer (some ⟨b5, 0, none⟩)) from (by kernel_rfl)) (show evL _ _ = some (.agg #[.slice a4 (List.length y2.1) c4]) from (by kernel_rfl)) st (by kernel_rfl) (by kernel_rfl) ?_)
    clear st
    intro w12 st
    refine WO_seg 1 [(10, .int .i64 y2.2)] (by kernel_rfl) (by kernel_rfl) ?_
    refine WO_et rfl ?_
    refine W_sr ?_
    refine WO_one rfl (One_load_own (d := 48) (t := 47) (x := (.tmp 9)) (.agg #[.slice a4 (List.length y2.1) c4]) (by kernel_rfl) rfl (show evL _ _ = some (.pointer (some ⟨b5, 0, none⟩)) from (by kernel_rfl)) st.head (by kernel_rfl) ?_)
    refine WO_seg 1 [(49, .pointer (some ⟨b4, 0, none⟩))] (by kernel_rfl) (by kernel_rfl) ?_
    refine WO_one rfl (One_load_own (d := 50) (t := 9) (x := (.tmp 49)) (.string x1.1) (by kernel_rfl) rfl (show evL _ _ = some (.pointer (some ⟨b4, 0, none⟩)) from (by kernel_rfl)) st.tail.tail.head (by kernel_rfl) ?_)
    replace hr := bindS hr
    obtain ⟨y3, hx5, hr⟩ := hr
    refine WO_one rfl (One_fn 51 38 #[.agg #[.slice a4 (List.length y2.1) c4], .string (⟨#[122, 122, 47, 110, 101, 119]⟩ : ByteArray), .string x1.1] (by kernel_rfl) rfl ?_)
    refine (revision_Move_ok st r4 hx5).mono ?_
    clear st
    rintro _ w13 ⟨a5, c5, m7, rfl, hle4, st, r5⟩
    refine ⟨_, rfl, ?_⟩
    have hm := Mem.le_trans hm hle4
    have r3 := r3.mono hle4
    have r4 := r4.mono hle4
    have r2 := r2.mono hle4
    refine WO_seg 3 [(52, .agg #[.slice a5 (List.length y3.1) c5]), (53, .int .i64 y3.2)] (by kernel_rfl) (by kernel_rfl) ?_
    refine WO_one rfl (One_alloc (d := 11) (e := 47) (.agg #[.slice none 0 0]) (by kernel_rfl) rfl (by kernel_rfl) st ?_)
    clear st
    intro b6 w14 st
    refine WO_one rfl (One_store (t := 47) (x := (.tmp 11)) (y := (.tmp 52)) (v := .agg #[.slice a5 (List.length y3.1) c5]) (c' := #[.slice a5 (List.length y3.1) c5]) (by kernel_rfl) (show evL _ _ = some (.pointer (some ⟨b6, 0, none⟩)) from (by kernel_rfl)) (show evL _ _ = some (.agg #[.slice a5 (List.length y3.1) c5]) from (by kernel_rfl)) st (by kernel_rfl) (by kernel_rfl) ?_)
    clear st
    intro w15 st
    refine WO_seg 1 [(12, .int .i64 y3.2)] (by kernel_rfl) (by kernel_rfl) ?_
    refine WO_et rfl ?_
    refine W_sr ?_
    refine WO_one rfl (One_load_own (d := 55) (t := 47) (x := (.tmp 6)) (.agg #[.slice a3 (List.length y1.2) c3]) (by kernel_rfl) rfl (show evL _ _ = some (.pointer (some ⟨b2, 0, none⟩)) from (by kernel_rfl)) st.tail.tail.tail.tail.tail.head (by kernel_rfl) ?_)
    refine WO_seg 1 [(56, .pointer (some ⟨b4, 0, none⟩))] (by kernel_rfl) (by kernel_rfl) ?_
    refine WO_one rfl (One_load_own (d := 57) (t := 9) (x := (.tmp 56)) (.string x1.1) (by kernel_rfl) rfl (show evL _ _ = some (.pointer (some ⟨b4, 0, none⟩)) from (by kernel_rfl)) st.tail.tail.tail.tail.head (by kernel_rfl) ?_)
    replace hr := bindS hr
    obtain ⟨y4, hx6, hr⟩ := hr
    refine WO_one rfl (One_fn 58 36 #[.agg #[.slice a3 (List.length y1.2) c3], .string x1.1] (by kernel_rfl) rfl ?_)
    refine (revision_Remove_ok st r3 hx6).mono ?_
    clear st
    rintro _ w16 ⟨a6, c6, m8, rfl, hle5, st, r6⟩
    refine ⟨_, rfl, ?_⟩
    have hm := Mem.le_trans hm hle5
    have r3 := r3.mono hle5
    have r5 := r5.mono hle5
    have r4 := r4.mono hle5
    have r2 := r2.mono hle5
    refine WO_seg 3 [(59, .agg #[.slice a6 (List.length y4.1) c6]), (60, .int .i64 y4.2)] (by kernel_rfl) (by kernel_rfl) ?_
    refine WO_one rfl (One_alloc (d := 13) (e := 47) (.agg #[.slice none 0 0]) (by kernel_rfl) rfl (by kernel_rfl) st ?_)
    clear st
    intro b7 w17 st
    refine WO_one rfl (One_store (t := 47) (x := (.tmp 13)) (y := (.tmp 59)) (v := .agg #[.slice a6 (List.length y4.1) c6]) (c' := #[.slice a6 (List.length y4.1) c6]) (by kernel_rfl) (show evL _ _ = some (.pointer (some ⟨b7, 0, none⟩)) from (by kernel_rfl)) (show evL _ _ = some (.agg #[.slice a6 (List.length y4.1) c6]) from (by kernel_rfl)) st (by kernel_rfl) (by kernel_rfl) ?_)
    clear st
    intro w18 st
    refine WO_seg 1 [(14, .int .i64 y4.2)] (by kernel_rfl) (by kernel_rfl) ?_
    refine WO_et rfl ?_
    refine W_sr ?_
    refine WO_one rfl (One_load_own (d := 62) (t := 47) (x := (.tmp 13)) (.agg #[.slice a6 (List.length y4.1) c6]) (by kernel_rfl) rfl (show evL _ _ = some (.pointer (some ⟨b7, 0, none⟩)) from (by kernel_rfl)) st.head (by kernel_rfl) ?_)
    refine WO_seg 1 [(63, .string o1)] (by kernel_rfl) (by kernel_rfl) ?_
    replace hr := bindS hr
    obtain ⟨y5, hx7, hr⟩ := hr
    refine WO_one rfl (One_fn 64 34 #[.agg #[.slice a6 (List.length y4.1) c6], .string (⟨#[122, 122, 47, 110, 101, 119]⟩ : ByteArray), .string o1] (by kernel_rfl) rfl ?_)
    refine (revision_Put_ok st r6 hx7).mono ?_
    clear st
    rintro _ w19 ⟨a7, c7, m9, rfl, hle6, st, r7⟩
    refine ⟨_, rfl, ?_⟩
    have hm := Mem.le_trans hm hle6
    have r3 := r3.mono hle6
    have r6 := r6.mono hle6
    have r5 := r5.mono hle6
    have r4 := r4.mono hle6
    have r2 := r2.mono hle6
    refine WO_seg 3 [(65, .agg #[.slice a7 (List.length y5.1) c7]), (66, .int .i64 y5.2)] (by kernel_rfl) (by kernel_rfl) ?_
    have st := st.front1
    refine WO_one rfl (One_store (t := 47) (x := (.tmp 13)) (y := (.tmp 65)) (v := .agg #[.slice a7 (List.length y5.1) c7]) (c' := #[.slice a7 (List.length y5.1) c7]) (by kernel_rfl) (show evL _ _ = some (.pointer (some ⟨b7, 0, none⟩)) from (by kernel_rfl)) (show evL _ _ = some (.agg #[.slice a7 (List.length y5.1) c7]) from (by kernel_rfl)) st (by kernel_rfl) (by kernel_rfl) ?_)
    clear st
    intro w20 st
    refine WO_seg 1 [(15, .int .i64 y5.2)] (by kernel_rfl) (by kernel_rfl) ?_
    refine WO_end rfl ?_
    have st := st.front2
    have st := st.tail
    refine X_then ?_
    refine W_sr ?_
    refine WO_one rfl (One_load_own (d := 68) (t := 47) (x := (.tmp 6)) (.agg #[.slice a3 (List.length y1.2) c3]) (by kernel_rfl) rfl (show evL _ _ = some (.pointer (some ⟨b2, 0, none⟩)) from (by kernel_rfl)) st.tail.tail.tail.tail.tail.tail.tail.head (by kernel_rfl) ?_)
    refine WO_seg 1 [(69, .string o1)] (by kernel_rfl) (by kernel_rfl) ?_
    replace hr := bindS hr
    obtain ⟨y6, hx8, hr⟩ := hr
    refine WO_one rfl (One_fn 70 34 #[.agg #[.slice a3 (List.length y1.2) c3], .string (⟨#[122, 122, 47, 110, 101, 119]⟩ : ByteArray), .string o1] (by kernel_rfl) rfl ?_)
    refine (revision_Put_ok st r3 hx8).mono ?_
    clear st
    rintro _ w21 ⟨a8, c8, m10, rfl, hle7, st, r8⟩
    refine ⟨_, rfl, ?_⟩
    have hm := Mem.le_trans hm hle7
    have r3 := r3.mono hle7
    have r7 := r7.mono hle7
    have r5 := r5.mono hle7
    have r4 := r4.mono hle7
    have r2 := r2.mono hle7
    refine WO_seg 3 [(71, .agg #[.slice a8 (List.length y6.1) c8]), (72, .int .i64 y6.2)] (by kernel_rfl) (by kernel_rfl) ?_
    refine WO_one rfl (One_alloc (d := 16) (e := 47) (.agg #[.slice none 0 0]) (by kernel_rfl) rfl (by kernel_rfl) st ?_)
    clear st
    intro b8 w22 st
    refine WO_one rfl (One_store (t := 47) (x := (.tmp 16)) (y := (.tmp 71)) (v := .agg #[.slice a8 (List.length y6.1) c8]) (c' := #[.slice a8 (List.length y6.1) c8]) (by kernel_rfl) (show evL _ _ = some (.pointer (some ⟨b8, 0, none⟩)) from (by kernel_rfl)) (show evL _ _ = some (.agg #[.slice a8 (List.length y6.1) c8]) from (by kernel_rfl)) st (by kernel_rfl) (by kernel_rfl) ?_)
    clear st
    intro w23 st
    refine WO_seg 1 [(17, .int .i64 y6.2)] (by kernel_rfl) (by kernel_rfl) ?_
    refine WO_et rfl ?_
    refine W_sr ?_
    refine WO_one rfl (One_load_own (d := 74) (t := 47) (x := (.tmp 16)) (.agg #[.slice a8 (List.length y6.1) c8]) (by kernel_rfl) rfl (show evL _ _ = some (.pointer (some ⟨b8, 0, none⟩)) from (by kernel_rfl)) st.head (by kernel_rfl) ?_)
    refine WO_seg 1 [(75, .pointer (some ⟨b4, 0, none⟩))] (by kernel_rfl) (by kernel_rfl) ?_
    refine WO_one rfl (One_load_own (d := 76) (t := 9) (x := (.tmp 75)) (.string x1.1) (by kernel_rfl) rfl (show evL _ _ = some (.pointer (some ⟨b4, 0, none⟩)) from (by kernel_rfl)) st.tail.tail.tail.tail.tail.tail.tail.tail.head (by kernel_rfl) ?_)
    replace hr := bindS hr
    obtain ⟨y7, hx9, hr⟩ := hr
    refine WO_one rfl (One_fn 77 36 #[.agg #[.slice a8 (List.length y6.1) c8], .string x1.1] (by kernel_rfl) rfl ?_)
    refine (revision_Remove_ok st r8 hx9).mono ?_
    clear st
    rintro _ w24 ⟨a9, c9, m11, rfl, hle8, st, r9⟩
    refine ⟨_, rfl, ?_⟩
    have hm := Mem.le_trans hm hle8
    have r3 := r3.mono hle8
    have r8 := r8.mono hle8
    have r7 := r7.mono hle8
    have r5 := r5.mono hle8
    have r4 := r4.mono hle8
    have r2 := r2.mono hle8
    refine WO_seg 3 [(78, .agg #[.slice a9 (List.length y7.1) c9]), (79, .int .i64 y7.2)] (by kernel_rfl) (by kernel_rfl) ?_
    have st := st.front1
    refine WO_one rfl (One_store (t := 47) (x := (.tmp 16)) (y := (.tmp 78)) (v := .agg #[.slice a9 (List.length y7.1) c9]) (c' := #[.slice a9 (List.length y7.1) c9]) (by kernel_rfl) (show evL _ _ = some (.pointer (some ⟨b8, 0, none⟩)) from (by kernel_rfl)) (show evL _ _ = some (.agg #[.slice a9 (List.length y7.1) c9]) from (by kernel_rfl)) st (by kernel_rfl) (by kernel_rfl) ?_)
    clear st
    intro w25 st
    refine WO_seg 1 [(18, .int .i64 y7.2)] (by kernel_rfl) (by kernel_rfl) ?_
    refine WO_end rfl ?_
    have st := st.front2
    have st := st.tail
    refine X_then ?_
    refine W_sr ?_
    replace hr := bindS hr
    obtain ⟨o3, hr, hrK⟩ := hr
    refine WO_cut (j := 34) (fun L' w' => ∃ (m12 : Mem), L' = [(1, .string o1), (6, .pointer (some ⟨b2, 0, none⟩)), (34, .slice a3 (List.length y1.2) c3), (35, .int .i64 (List.length y1.2 : Int)), (36, .int .i64 s2), (113, .bool o3)] ∧ m.le m12 ∧ St m12 (.blk b8 (.cells #[.slice a9 (List.length y7.1) c9] 47 (0, 0)) :: .blk b7 (.cells #[.slice a7 (List.length y5.1) c7] 47 (0, 0)) :: .blk b6 (.cells #[.slice a5 (List.length y3.1) c5] 47 (0, 0)) :: .blk b5 (.cells #[.slice a4 (List.length y2.1) c4] 47 (0, 0)) :: .blk b4 (.cells #[.string x1.1, .string x1.2] 66 (0, 0)) :: .blk b2 (.cells #[.slice a3 (List.length y1.2) c3] 47 (0, 0)) :: .blk b1 (.cells #[.slice a2 (List.length y1.1.1) c2, .int .i64 y1.1.2] 29 (0, 0)) :: .room a9 (List.length y7.1) c9 66 2 :: .room a7 (List.length y5.1) c7 66 2 :: .room a5 (List.length y3.1) c5 66 2 :: .room a4 (List.length y2.1) c4 66 2 :: .room a3 (List.length y1.2) c3 66 2 :: own) w' ∧ RepS (cPair cStr cStr) m12 a3 c3 y1.2 ∧ RepS (cPair cStr cStr) m12 a9 c9 y7.1 ∧ RepS (cPair cStr cStr) m12 a7 c7 y5.1 ∧ RepS (cPair cStr cStr) m12 a5 c5 y3.1 ∧ RepS (cPair cStr cStr) m12 a4 c4 y2.1 ∧ RepS (cInt .i64) m12 a2 c2 y1.1.1) ?_ ?_
    ·clear hr st
     have hr := hrK
     clear hrK
     rintro _ w26 ⟨m12, rfl, hm, st, r3, r9, r7, r5, r4, r2⟩
     refine WO_et rfl ?_
     refine W_cond o3 (by kernel_rfl) ?_ ?_
     ·intro hc
      rw [if_pos hc] at hr
      refine W_sr ?_
      refine WO_seg 1 [(4, .bool false)] (by kernel_rfl) (by kernel_rfl) ?_
      refine WO_et rfl ?_
      refine W_ret ?_
      refine X_block_ret ?_
      refine X_then_ret ?_
      obtain rfl := Option.some.inj hr
      have ho := hBu2 _ rfl
      subst ho
      have hr := hrKu2
      dsimp only at hr
      refine X_then_ret ?_
      refine X_block_ret ?_
      refine X_then_ret ?_
      obtain rfl := Option.some.inj hr
      refine X_ret [.tmp 4] [.bool false] rfl (ResAll.cons (ResAt.tmp (by kernel_rfl)) ResAll.nil) ?_
      have st := st.tail
      have st := st.tail
      have st := st.tail
      have st := st.tail
      have st := st.tail
      have st := st.tail
      have st := st.tail
      have st := st.tail
      have st := st.tail
      have st := st.tail
      have st := st.tail
      have st := st.tail
      exact ⟨m12, rfl, hm, st⟩
     ·intro hc
      rw [if_neg (not_true hc)] at hr
      refine W_skip ?_
      refine X_block ?_
      refine X_then ?_
      refine W_region ?_
      refine WO_seg 2 [(36, .int .i64 (IntKind.wrap .i64 (s2 + 1)))] (by kernel_rfl) (by kernel_rfl) ?_
      refine WO_end rfl ?_
      obtain rfl := Option.some.inj hr
      have hL := hSu2 _ rfl
      have st := st.tail
      have st := st.tail
      have st := st.tail
      have st := st.tail
      have st := st.tail
      have st := st.front2
      have st := st.tail
      have st := st.front2
      have st := st.tail
      have st := st.front2
      have st := st.tail
      have st := st.front2
      have st := st.tail
      have st := st.front2
      have st := st.front2
      have st := st.front2
      exact X_env _ (by kernel_rfl) (X_round k1 (Nat.lt_succ_self _) ⟨IntKind.wrap .i64 (s2 + 1), m12, hL, rfl, hm, st, r3, r2⟩)
    ·intro K
     clear hrK
     refine WO_seg 3 [(82, .bool (y2.2 != 0))] (by kernel_rfl) (by kernel_rfl) ?_
     rcases bcases (y2.2 != 0) with hc | hc
     ·rw [if_pos hc] at hr
      refine WO_fact (t := 82) (b := true) (y2.2 != 0) (by kernel_rfl) hc ?_
      refine WO_seg 31 [(113, .bool true)] (by kernel_rfl) (by kernel_rfl) ?_
      obtain rfl := Option.some.inj hr
      have st := st.front11
      have st := st.front8
      have st := st.front7
      have st := st.front6
      have st := st.front5
      have st := st.front11
      have st := st.front11
      have st := st.front11
      have st := st.front11
      have st := st.front11
      have st := st.front11
      have st := st.front11
      exact WO_env _ (by kernel_rfl) (K _ _ ⟨m11, rfl, hm, st, r3, r9, r7, r5, r4, r2⟩)
     ·rw [if_neg (not_true hc)] at hr
      refine WO_fact (t := 82) (b := false) (y2.2 != 0) (by kernel_rfl) hc ?_
      refine WO_seg 4 [(86, .bool (y3.2 != 0))] (by kernel_rfl) (by kernel_rfl) ?_
      rcases bcases (y3.2 != 0) with hc | hc
      ·rw [if_pos hc] at hr
       refine WO_fact (t := 86) (b := true) (y3.2 != 0) (by kernel_rfl) hc ?_
       refine WO_seg 27 [(113, .bool true)] (by kernel_rfl) (by kernel_rfl) ?_
       obtain rfl := Option.some.inj hr
       have st := st.front11
       have st := st.front8
       have st := st.front7
       have st := st.front6
       have st := st.front5
       have st := st.front11
       have st := st.front11
       have st := st.front11
       have st := st.front11
       have st := st.front11
       have st := st.front11
       have st := st.front11
       exact WO_env _ (by kernel_rfl) (K _ _ ⟨m11, rfl, hm, st, r3, r9, r7, r5, r4, r2⟩)
      ·rw [if_neg (not_true hc)] at hr
       refine WO_fact (t := 86) (b := false) (y3.2 != 0) (by kernel_rfl) hc ?_
       refine WO_seg 4 [(90, .bool (y4.2 != 0))] (by kernel_rfl) (by kernel_rfl) ?_
       rcases bcases (y4.2 != 0) with hc | hc
       ·rw [if_pos hc] at hr
        refine WO_fact (t := 90) (b := true) (y4.2 != 0) (by kernel_rfl) hc ?_
        refine WO_seg 23 [(113, .bool true)] (by kernel_rfl) (by kernel_rfl) ?_
        obtain rfl := Option.some.inj hr
        have st := st.front11
        have st := st.front8
        have st := st.front7
        have st := st.front6
        have st := st.front5
        have st := st.front11
        have st := st.front11
        have st := st.front11
        have st := st.front11
        have st := st.front11
        have st := st.front11
        have st := st.front11
        exact WO_env _ (by kernel_rfl) (K _ _ ⟨m11, rfl, hm, st, r3, r9, r7, r5, r4, r2⟩)
       ·rw [if_neg (not_true hc)] at hr
        refine WO_fact (t := 90) (b := false) (y4.2 != 0) (by kernel_rfl) hc ?_
        refine WO_seg 4 [(94, .bool (y5.2 != 0))] (by kernel_rfl) (by kernel_rfl) ?_
        rcases bcases (y5.2 != 0) with hc | hc
        ·rw [if_pos hc] at hr
         refine WO_fact (t := 94) (b := true) (y5.2 != 0) (by kernel_rfl) hc ?_
         refine WO_seg 19 [(113, .bool true)] (by kernel_rfl) (by kernel_rfl) ?_
         obtain rfl := Option.some.inj hr
         have st := st.front11
         have st := st.front8
         have st := st.front7
         have st := st.front6
         have st := st.front5
         have st := st.front11
         have st := st.front11
         have st := st.front11
         have st := st.front11
         have st := st.front11
         have st := st.front11
         have st := st.front11
         exact WO_env _ (by kernel_rfl) (K _ _ ⟨m11, rfl, hm, st, r3, r9, r7, r5, r4, r2⟩)
        ·rw [if_neg (not_true hc)] at hr
         refine WO_fact (t := 94) (b := false) (y5.2 != 0) (by kernel_rfl) hc ?_
         refine WO_seg 4 [(98, .bool (y6.2 != 0))] (by kernel_rfl) (by kernel_rfl) ?_
         rcases bcases (y6.2 != 0) with hc | hc
         ·rw [if_pos hc] at hr
          refine WO_fact (t := 98) (b := true) (y6.2 != 0) (by kernel_rfl) hc ?_
          refine WO_seg 15 [(113, .bool true)] (by kernel_rfl) (by kernel_rfl) ?_
          obtain rfl := Option.some.inj hr
          have st := st.front11
          have st := st.front8
          have st := st.front7
          have st := st.front6
          have st := st.front5
          have st := st.front11
          have st := st.front11
          have st := st.front11
          have st := st.front11
          have st := st.front11
          have st := st.front11
          have st := st.front11
          exact WO_env _ (by kernel_rfl) (K _ _ ⟨m11, rfl, hm, st, r3, r9, r7, r5, r4, r2⟩)
         ·rw [if_neg (not_true hc)] at hr
          refine WO_fact (t := 98) (b := false) (y6.2 != 0) (by kernel_rfl) hc ?_
          refine WO_seg 4 [(102, .bool (y7.2 != 0))] (by kernel_rfl) (by kernel_rfl) ?_
          rcases bcases (y7.2 != 0) with hc | hc
          ·rw [if_pos hc] at hr
           refine WO_fact (t := 102) (b := true) (y7.2 != 0) (by kernel_rfl) hc ?_
           refine WO_seg 11 [(113, .bool true)] (by kernel_rfl) (by kernel_rfl) ?_
           obtain rfl := Option.some.inj hr
           have st := st.front11
           have st := st.front8
           have st := st.front7
           have st := st.front6
           have st := st.front5
           have st := st.front11
           have st := st.front11
           have st := st.front11
           have st := st.front11
           have st := st.front11
           have st := st.front11
           have st := st.front11
           exact WO_env _ (by kernel_rfl) (K _ _ ⟨m11, rfl, hm, st, r3, r9, r7, r5, r4, r2⟩)
          ·rw [if_neg (not_true hc)] at hr
           refine WO_fact (t := 102) (b := false) (y7.2 != 0) (by kernel_rfl) hc ?_
           refine WO_one rfl (One_load_own (d := 103) (t := 47) (x := (.tmp 6)) (.agg #[.slice a3 (List.length y1.2) c3]) (by kernel_rfl) rfl (show evL _ _ = some (.pointer (some ⟨b2, 0, none⟩)) from (by kernel_rfl)) st.tail.tail.tail.tail.tail.tail.tail.tail.tail.head (by kernel_rfl) ?_)
           refine WO_one rfl (One_load_own (d := 104) (t := 47) (x := (.tmp 11)) (.agg #[.slice a5 (List.length y3.1) c5]) (by kernel_rfl) rfl (show evL _ _ = some (.pointer (some ⟨b6, 0, none⟩)) from (by kernel_rfl)) st.tail.tail.tail.tail.head (by kernel_rfl) ?_)
           replace hr := bindS hr
           obtain ⟨y8, hx10, hr⟩ := hr
           refine WO_one rfl (One_fn 105 29 #[.agg #[.slice a3 (List.length y1.2) c3], .agg #[.slice a5 (List.length y3.1) c5]] (by kernel_rfl) rfl ?_)
           refine (testgateref07_Same_ok st r3 r5 hx10).mono ?_
           clear st
           rintro _ w27 ⟨m13, rfl, hle9, st⟩
           refine ⟨_, rfl, ?_⟩
           have hm := Mem.le_trans hm hle9
           have r3 := r3.mono hle9
           have r5 := r5.mono hle9
           have r9 := r9.mono hle9
           have r7 := r7.mono hle9
           have r4 := r4.mono hle9
           have r2 := r2.mono hle9
           refine WO_seg 3 [(108, .bool (!y8))] (by kernel_rfl) (by kernel_rfl) ?_
           rcases bcases (!y8) with hc | hc
           ·rw [if_pos hc] at hr
            refine WO_fact (t := 108) (b := true) (!y8) (by kernel_rfl) hc ?_
            refine WO_seg 5 [(113, .bool true)] (by kernel_rfl) (by kernel_rfl) ?_
            obtain rfl := Option.some.inj hr
            have st := st.front11
            have st := st.front8
            have st := st.front7
            have st := st.front6
            have st := st.front5
            have st := st.front11
            have st := st.front11
            have st := st.front11
            have st := st.front11
            have st := st.front11
            have st := st.front11
            have st := st.front11
            exact WO_env _ (by kernel_rfl) (K _ _ ⟨m13, rfl, hm, st, r3, r9, r7, r5, r4, r2⟩)
           ·rw [if_neg (not_true hc)] at hr
            refine WO_fact (t := 108) (b := false) (!y8) (by kernel_rfl) hc ?_
            refine WO_one rfl (One_load_own (d := 109) (t := 47) (x := (.tmp 13)) (.agg #[.slice a7 (List.length y5.1) c7]) (by kernel_rfl) rfl (show evL _ _ = some (.pointer (some ⟨b7, 0, none⟩)) from (by kernel_rfl)) st.tail.tail.head (by kernel_rfl) ?_)
            refine WO_one rfl (One_load_own (d := 110) (t := 47) (x := (.tmp 16)) (.agg #[.slice a9 (List.length y7.1) c9]) (by kernel_rfl) rfl (show evL _ _ = some (.pointer (some ⟨b8, 0, none⟩)) from (by kernel_rfl)) st.head (by kernel_rfl) ?_)
            replace hr := bindS hr
            obtain ⟨y9, hx11, hr⟩ := hr
            refine WO_one rfl (One_fn 111 29 #[.agg #[.slice a7 (List.length y5.1) c7], .agg #[.slice a9 (List.length y7.1) c9]] (by kernel_rfl) rfl ?_)
            refine (testgateref07_Same_ok st r7 r9 hx11).mono ?_
            clear st
            rintro _ w28 ⟨m14, rfl, hle10, st⟩
            refine ⟨_, rfl, ?_⟩
            have hm := Mem.le_trans hm hle10
            have r3 := r3.mono hle10
            have r5 := r5.mono hle10
            have r7 := r7.mono hle10
            have r9 := r9.mono hle10
            have r4 := r4.mono hle10
            have r2 := r2.mono hle10
            refine WO_seg 2 [(113, .bool (!y9))] (by kernel_rfl) (by kernel_rfl) ?_
            obtain rfl := Option.some.inj hr
            have st := st.front11
            have st := st.front8
            have st := st.front7
            have st := st.front6
            have st := st.front5
            have st := st.front11
            have st := st.front11
            have st := st.front11
            have st := st.front11
            have st := st.front11
            have st := st.front11
            have st := st.front11
            exact WO_env _ (by kernel_rfl) (K _ _ ⟨m14, rfl, hm, st, r3, r9, r7, r5, r4, r2⟩)
   ·intro hc
    rw [if_neg (not_true hc)] at hr
    refine W_exit ?_
    refine X_then_exit ?_
    obtain rfl := Option.some.inj hr
    have ho := hBu2 _ rfl
    have st := st.front2
    have st := st.front2
    have st := st.front2
    refine X_then_exit ?_
    exact X_env _ (by kernel_rfl) (K0_u2 _ _ ⟨(), m5, ho, rfl, hm, st, r3, r2⟩)
 ·intro Ku1
  clear hrKu1
  refine W_cond (decide ((ByteArray.size p1 : Int) > 100)) (by kernel_rfl) ?_ ?_
  ·intro hc
   rw [if_pos hc] at hr
   refine W_region ?_
   refine WO_seg 1 [(31, .string p1)] (by kernel_rfl) (by kernel_rfl) ?_
   replace hr := bindS hr
   obtain ⟨s1, hx2, hr⟩ := hr
   refine WO_one rfl (One_strSlice (d := 32) (t := 9) (x := (.tmp 31)) (lo := none) (hi := (some (.const (.int .i64 100)))) (by kernel_rfl) rfl (show evL _ _ = some (.string p1) from (by kernel_rfl)) (by kernel_rfl) (.inl ⟨rfl, rfl⟩) (.inr ⟨_, _, rfl, (show evL _ _ = some (.int .i64 100) from (by kernel_rfl))⟩) hx2 ?_)
   refine WO_seg 1 [(1, .string s1)] (by kernel_rfl) (by kernel_rfl) ?_
   refine WO_end rfl ?_
   obtain rfl := Option.some.inj hr
   have st := st.front1
   have st := st.front2
   have st := st.front2
   exact X_env _ (by kernel_rfl) (Ku1 _ _ ⟨m2, rfl, hm, st, r3, r2⟩)
  ·intro hc
   rw [if_neg (not_true hc)] at hr
   refine W_skip ?_
   obtain rfl := Option.some.inj hr
   have st := st.front1
   have st := st.front2
   have st := st.front2
   exact X_env _ (by kernel_rfl) (Ku1 _ _ ⟨m2, rfl, hm, st, r3, r2⟩)

end Go.Proofs.YtfodebccikifcaaDoor
