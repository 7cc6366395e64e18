/- MADE BY gen.py: plain functions and the proofs that the Go functions compute them. No condition but those of each theorem. -/
import Derived.Test.YtfodebccikifcaaGreatDoorProg
import Derived.Test.YtfodebccikifcaaGreatDoorInsy1
import Derived.Test.YtfodebccikifcaaGreatDoorTConCy1
namespace Go.Proofs.YtfodebccikifcaaGreatDoor
open Go Go.Dc
def revision_Decode_L1 (N : Nat) (l1 : List (Int × List UInt8)) (s1 : Int × (List (ByteArray × ByteArray))) : Option ((Int × (List (ByteArray × ByteArray))) ⊕ (((List (ByteArray × ByteArray))) ⊕ (((List (ByteArray × ByteArray))) × Int))) :=
 if (decide (s1.1 < (List.length l1 : Int))) = true then ((idx l1 s1.1).bind fun x2 => (revision_payload_text N (x2.2, 0, false)).bind fun y2 => (revision_payload_text N (y2.1.1, y2.1.2.1, y2.1.2.2)).bind fun y3 => (appendS 32 s1.2 ([(y2.2, y3.2)])).bind fun l2 => (if (x2.1 != 1) = true then (some (true, y3.1.1, y3.1.2.1, y3.1.2.2)) else ((revision_payload_end N (y3.1.1, y3.1.2.1, y3.1.2.2)).bind fun y4 => some (!y4.2, y4.1.1, y4.1.2.1, y4.1.2.2)) : Option (Bool × List (UInt8) × Int × Bool)).bind fun o3 => if o3.1 = true then (some (.inr (.inr ((([] : List (ByteArray × ByteArray)), 6))))) else (some (.inl (IntKind.wrap .i64 (s1.1 + 1), l2)))) else (some (.inr (.inl s1.2)))
def revision_Decode (N : Nat) (p0 : List UInt8) : Option (((List (ByteArray × ByteArray))) × Int) :=
 (wire_Frames N p0).bind fun y1 => if (y1.2.2 != 0) = true then (some (([] : List (ByteArray × ByteArray)), y1.2.2)) else ((if (decide ((IntKind.wrap .i64 ((List.length y1.1 : Int) - 1)) < 0)) = true then (some true) else ((idx y1.1 (IntKind.wrap .i64 ((List.length y1.1 : Int) - 1))).bind fun x1 => some (x1.1 != 2)) : Option (Bool)).bind fun o1 => if o1 = true then (some (([] : List (ByteArray × ByteArray)), 7)) else ((subS y1.1 0 (IntKind.wrap .i64 ((List.length y1.1 : Int) - 1))).bind fun l1 => (loopM (revision_Decode_L1 N l1) N (0, ([] : List (ByteArray × ByteArray)))).bind fun out1 => (match out1 with | .inl o2 => (idx y1.1 (IntKind.wrap .i64 ((List.length y1.1 : Int) - 1))).bind fun x3 => (revision_payload_number N (x3.2, 0, false)).bind fun y5 => ((revision_payload_end N (y5.1.1, y5.1.2.1, y5.1.2.2)).bind fun y6 => if (!y6.2) = true then (some (true, y6.1.1, y6.1.2.1, y6.1.2.2)) else (some (y5.2 != (IntKind.wrap .u64 (IntKind.wrap .i64 ((List.length y1.1 : Int) - 1))), y6.1.1, y6.1.2.1, y6.1.2.2)) : Option (Bool × List (UInt8) × Int × Bool)).bind fun o4 => if o4.1 = true then (some (([] : List (ByteArray × ByteArray)), 6)) else ((revision_Check N o2).bind fun y7 => if (y7 != 0) = true then (some (([] : List (ByteArray × ByteArray)), y7)) else (some (o2, 0))) | .inr (z) => some z)))
set_option maxHeartbeats 4000000 in
set_option maxRecDepth 100000 in
theorem revision_Decode_ok {N : Nat} {m : Mem} {own : List Piece} {w : World} {p0 : List UInt8} {a1 : Option Addr} {c1 : Nat} {r : ((List (ByteArray × ByteArray))) × Int} (st : St m (own) w) (r1 : RepS cU8 m a1 c1 p0) (hr : revision_Decode N p0 = some r) : Calls Tryz.prog 25 #[.slice a1 (List.length p0) c1] w fun e w' => ∃ (ra1 : Option Addr) (rc1 : Nat) (m' : Mem), e = .returned (.tuple #[.agg #[.slice ra1 (List.length r.1) rc1], .int .i64 r.2]) ∧ m.le m' ∧ St m' (.room ra1 (List.length r.1) rc1 46 2 :: own) w' ∧ RepS (cPair cStr cStr) m' ra1 rc1 r.1 := by
 unfold revision_Decode at hr
 have hm := m.le_refl
 refine W_calls Tryz.func25 rfl Tryz.ntmps25 [(0, .slice a1 (List.length p0) c1)] kr rfl ?_
 refine W_sr (WO_one rfl (One_alloc (d := 2) (e := 29) (.agg #[.slice none 0 0]) kr rfl kr st ?_))
 clear st
 intro b1 w1 st
 refine WO_seg 1 [] kr kr ?_
 refine WO_et rfl (W_sr ?_)
 refine WO_seg 1 [(17, .slice a1 (List.length p0) c1)] kr kr ?_
 replace ⟨y1, hx1, hr⟩ := bindS hr
 refine WO_one rfl (One_fn 18 41 #[.slice a1 (List.length p0) c1] kr rfl ?_)
 refine (wire_Frames_ok st r1 hx1).mono ?_
 clear st
 rintro _ w2 ⟨a2, c2, m1, rfl, hle1, st, r2⟩
 refine ⟨_, rfl, ?_⟩
 have hm := Mem.le_trans hm hle1
 have r1 := r1.mono hle1
 refine WO_seg 7 [(4, .slice a2 (List.length y1.1) c2), (6, .int .i64 y1.2.2)] kr kr ?_
 refine WO_et rfl (W_seq ?_)
 refine W_sr (WO_seg 2 [(23, .bool (y1.2.2 != 0))] kr kr ?_)
 refine WO_et rfl (W_cond (y1.2.2 != 0) kr ?_ ?_)
 ·intro hc
  rw [if_pos hc] at hr
  refine W_sr (WO_seg 2 [(24, .agg #[.slice none (List.length ([] : List (ByteArray × ByteArray))) 0]), (25, .int .i64 y1.2.2)] kr kr ?_)
  have st := st.front1
  refine WO_one rfl (One_store (t := 29) (x := (.tmp 2)) (y := (.tmp 24)) (v := .agg #[.slice none (List.length ([] : List (ByteArray × ByteArray))) 0]) (c' := #[.slice none (List.length ([] : List (ByteArray × ByteArray))) 0]) kr (ev (.pointer (some ⟨b1, 0, none⟩))) (ev (.agg #[.slice none (List.length ([] : List (ByteArray × ByteArray))) 0])) st kr kr ?_)
  clear st
  intro w3 st
  refine WO_seg 1 [(3, .int .i64 y1.2.2)] kr kr ?_
  refine WO_end rfl ?_
  have st := st.front1
  have st := st.tail
  refine X_then ?_
  refine W_ret ?_
  refine X_then_ret ?_
  obtain rfl := Option.some.inj hr
  refine X_ret [.cell 2 29, .tmp 3] [.agg #[.slice none (List.length ([] : List (ByteArray × ByteArray))) 0], .int .i64 y1.2.2] rfl (ResAll.cons (ResAt.blk (v := .agg #[.slice none (List.length ([] : List (ByteArray × ByteArray))) 0]) (o := 0) kr st.head kr) (ResAll.cons (ResAt.tmp kr) ResAll.nil)) ?_
  have st := st.nilroom 46 2
  have st := st.front1
  have st := st.tail
  exact ⟨none, 0, m1, rfl, hm, st, (RepS.nil _ _)⟩
 ·intro hc
  rw [if_neg (not_true hc)] at hr
  refine W_skip ?_
  refine X_then ?_
  refine W_sr (WO_seg 4 [(7, .int .i64 (IntKind.wrap .i64 ((List.length y1.1 : Int) - 1)))] kr kr ?_)
  refine WO_et rfl (W_seq ?_)
  refine W_sr ?_
  replace ⟨o1, hr, hrK⟩ := bindS hr
  refine WO_cut (j := 10) (fun L' w' => ∃ (m2 : Mem), L' = [(2, .pointer (some ⟨b1, 0, none⟩)), (4, .slice a2 (List.length y1.1) c2), (7, .int .i64 (IntKind.wrap .i64 ((List.length y1.1 : Int) - 1))), (38, .bool o1)] ∧ m.le m2 ∧ St m2 (.blk b1 (.cells #[.slice none (List.length ([] : List (ByteArray × ByteArray))) 0] 29 (0, 0)) :: .room a2 (List.length y1.1) c2 37 2 :: own) w' ∧ RepS (cPair (cInt .i64) (cSl cU8)) m2 a2 c2 y1.1) ?_ ?_
  ·clear hr st
   have hr := hrK
   clear hrK
   rintro _ w4 ⟨m2, rfl, hm, st, r2⟩
   refine WO_et rfl (W_cond o1 kr ?_ ?_)
   ·intro hc
    rw [if_pos hc] at hr
    refine W_sr (WO_seg 1 [(39, .agg #[.slice none (List.length ([] : List (ByteArray × ByteArray))) 0])] kr kr ?_)
    refine WO_one rfl (One_store (t := 29) (x := (.tmp 2)) (y := (.tmp 39)) (v := .agg #[.slice none (List.length ([] : List (ByteArray × ByteArray))) 0]) (c' := #[.slice none (List.length ([] : List (ByteArray × ByteArray))) 0]) kr (ev (.pointer (some ⟨b1, 0, none⟩))) (ev (.agg #[.slice none (List.length ([] : List (ByteArray × ByteArray))) 0])) st kr kr ?_)
    clear st
    intro w5 st
    refine WO_seg 1 [(3, .int .i64 7)] kr kr ?_
    refine WO_end rfl ?_
    have st := st.front1
    have st := st.tail
    refine X_then ?_
    refine W_ret ?_
    refine X_then_ret ?_
    obtain rfl := Option.some.inj hr
    refine X_ret [.cell 2 29, .tmp 3] [.agg #[.slice none (List.length ([] : List (ByteArray × ByteArray))) 0], .int .i64 7] rfl (ResAll.cons (ResAt.blk (v := .agg #[.slice none (List.length ([] : List (ByteArray × ByteArray))) 0]) (o := 0) kr st.head kr) (ResAll.cons (ResAt.tmp kr) ResAll.nil)) ?_
    have st := st.nilroom 46 2
    have st := st.front1
    have st := st.tail
    exact ⟨none, 0, m2, rfl, hm, st, (RepS.nil _ _)⟩
   ·intro hc
    rw [if_neg (not_true hc)] at hr
    refine W_skip ?_
    refine X_then ?_
    refine W_sr (WO_one rfl (One_alloc (d := 8) (e := 29) (.agg #[.slice none 0 0]) kr rfl kr st ?_))
    clear st
    intro b3 w6 st
    refine WO_et rfl (W_seq ?_)
    refine W_sr (WO_seg 2 [(40, .slice a2 (List.length y1.1) c2), (41, .int .i64 (IntKind.wrap .i64 ((List.length y1.1 : Int) - 1)))] kr kr ?_)
    replace ⟨l1, hx3, hr⟩ := bindS hr
    refine WO_one rfl (One_slice (d := 42) (t := 67) (e := 37) (x := (.tmp 40)) (lo := none) (hi := (some (.tmp 41))) (cPair (cInt .i64) (cSl cU8)) kr rfl (ev (.slice a2 (List.length y1.1) c2)) kr r2 (.inl ⟨rfl, rfl⟩) (.inr ⟨_, _, rfl, (ev (.int .i64 (IntKind.wrap .i64 ((List.length y1.1 : Int) - 1))))⟩) hx3 ?_)
    intro a4 c4 r4
    refine WO_seg 2 [(43, .int .i64 (List.length l1 : Int)), (44, .int .i64 0)] kr kr ?_
    refine WO_et rfl (W_block ?_)
    replace ⟨out1, hr, hrKu1⟩ := bindS hr
    refine W_cut (.exit 0) (fun L' w' => ∃ (o2 : (List (ByteArray × ByteArray))) (a5 : Option Addr) (c5 : Nat) (m3 : Mem), (.inl o2) = out1 ∧ L' = [(2, .pointer (some ⟨b1, 0, none⟩)), (4, .slice a2 (List.length y1.1) c2), (7, .int .i64 (IntKind.wrap .i64 ((List.length y1.1 : Int) - 1))), (8, .pointer (some ⟨b3, 0, none⟩))] ∧ m.le m3 ∧ St m3 (.blk b3 (.cells #[.slice a5 (List.length o2) c5] 29 (0, 0)) :: .blk b1 (.cells #[.slice none (List.length ([] : List (ByteArray × ByteArray))) 0] 29 (0, 0)) :: .room a2 (List.length y1.1) c2 37 2 :: .room a5 (List.length o2) c5 46 2 :: own) w' ∧ RepS (cPair (cInt .i64) (cSl cU8)) m3 a2 c2 y1.1 ∧ RepS (cPair cStr cStr) m3 a5 c5 o2) ?_ ?_
    ·clear hr st
     rintro _ w7 ⟨o2, a5, c5, m3, rfl, rfl, hm, st, r2, r5⟩
     have hr := hrKu1
     clear hrKu1
     dsimp only at hr
     refine X_block_eq ?_
     refine X_then ?_
     refine W_sr (WO_seg 2 [(74, .slice a2 (List.length y1.1) c2), (75, .int .i64 (IntKind.wrap .i64 ((List.length y1.1 : Int) - 1)))] kr kr ?_)
     replace ⟨x3, hx9, hr⟩ := bindS hr
     refine WO_one rfl (One_index (d := 76) (t := 67) (e := 37) (x := (.tmp 74)) (y := (.tmp 75)) (cPair (cInt .i64) (cSl cU8)) kr rfl (ev (.slice a2 (List.length y1.1) c2)) (ev (.int .i64 (IntKind.wrap .i64 ((List.length y1.1 : Int) - 1)))) kr r2 hx9 ?_)
     rintro b8 f3 cs3 ⟨_, _, rfl, rfl, ⟨a13, c13, rfl, r14⟩⟩ hq3
     refine WO_seg 1 [(77, .pointer (some ⟨b8, f3 + 1, none⟩))] kr kr ?_
     refine WO_one rfl (One_load_row (d := 78) (t := 23) (x := (.tmp 77)) (.slice a13 (List.length x3.2) c13) kr rfl (ev (.pointer (some ⟨b8, f3 + 1, none⟩))) st (hq3.drop 1) kr ?_)
     refine WO_seg 1 [(79, .agg #[.slice a13 (List.length x3.2) c13, .int .i64 0, .bool false])] kr kr ?_
     refine WO_one rfl (One_box_own (d := 80) (e := 72) (x := (.tmp 79)) (.agg #[.slice a13 (List.length x3.2) c13, .int .i64 0, .bool false]) kr rfl kr st ?_)
     clear st
     intro b9 w21 st
     refine WO_seg 1 [(13, .pointer (some ⟨b9, 0, none⟩))] kr kr ?_
     refine WO_end rfl ?_
     have st := st.front3
     have st := st.tail
     refine X_then ?_
     refine W_seq ?_
     refine W_sr (WO_seg 1 [(81, .pointer (some ⟨b9, 0, none⟩))] kr kr ?_)
     replace ⟨y5, hx10, hr⟩ := bindS hr
     refine WO_one rfl (One_fn 82 44 #[.pointer (some ⟨b9, 0, none⟩)] kr rfl ?_)
     refine (revision_payload_number_ok st r14 hx10).mono ?_
     clear st
     rintro _ w22 ⟨a14, c14, m13, rfl, hle9, st, r15⟩
     refine ⟨_, rfl, ?_⟩
     have hm := Mem.le_trans hm hle9
     have r14 := r14.mono hle9
     have r5 := r5.mono hle9
     refine WO_seg 1 [(14, .int .u64 y5.2)] kr kr ?_
     refine WO_et rfl (W_sr ?_)
     replace ⟨o4, hr, hrK⟩ := bindS hr
     refine WO_cut (j := 9) (fun L' w' => ∃ (a15 : Option Addr) (c15 : Nat) (m14 : Mem), L' = [(2, .pointer (some ⟨b1, 0, none⟩)), (8, .pointer (some ⟨b3, 0, none⟩)), (91, .bool o4.1)] ∧ m.le m14 ∧ St m14 (.blk b9 (.cells #[.slice a15 (List.length o4.2.1) c15, .int .i64 o4.2.2.1, .bool o4.2.2.2] 72 (0, 0)) :: .blk b3 (.cells #[.slice a5 (List.length o2) c5] 29 (0, 0)) :: .blk b1 (.cells #[.slice none (List.length ([] : List (ByteArray × ByteArray))) 0] 29 (0, 0)) :: .room a5 (List.length o2) c5 46 2 :: own) w' ∧ RepS cU8 m14 a15 c15 o4.2.1 ∧ RepS (cPair cStr cStr) m14 a5 c5 o2) ?_ ?_
     ·clear hr st
      have hr := hrK
      clear hrK
      rintro _ w23 ⟨a15, c15, m14, rfl, hm, st, r16, r5⟩
      refine WO_et rfl (W_cond o4.1 kr ?_ ?_)
      ·intro hc
       rw [if_pos hc] at hr
       refine W_sr (WO_seg 1 [(92, .agg #[.slice none (List.length ([] : List (ByteArray × ByteArray))) 0])] kr kr ?_)
       have st := st.front2
       refine WO_one rfl (One_store (t := 29) (x := (.tmp 2)) (y := (.tmp 92)) (v := .agg #[.slice none (List.length ([] : List (ByteArray × ByteArray))) 0]) (c' := #[.slice none (List.length ([] : List (ByteArray × ByteArray))) 0]) kr (ev (.pointer (some ⟨b1, 0, none⟩))) (ev (.agg #[.slice none (List.length ([] : List (ByteArray × ByteArray))) 0])) st kr kr ?_)
       clear st
       intro w25 st
       refine WO_seg 1 [(3, .int .i64 6)] kr kr ?_
       refine WO_et rfl (W_ret ?_)
       refine X_then_ret ?_
       obtain rfl := Option.some.inj hr
       refine X_ret [.cell 2 29, .tmp 3] [.agg #[.slice none (List.length ([] : List (ByteArray × ByteArray))) 0], .int .i64 6] rfl (ResAll.cons (ResAt.blk (v := .agg #[.slice none (List.length ([] : List (ByteArray × ByteArray))) 0]) (o := 0) kr st.head kr) (ResAll.cons (ResAt.tmp kr) ResAll.nil)) ?_
       have st := st.nilroom 46 2
       have st := st.front1
       have st := st.tail
       have st := st.front1
       have st := st.tail
       have st := st.front1
       have st := st.tail
       have st := st.front1
       have st := st.tail
       exact ⟨none, 0, m14, rfl, hm, st, (RepS.nil _ _)⟩
      ·intro hc
       rw [if_neg (not_true hc)] at hr
       refine W_skip ?_
       refine X_then ?_
       refine W_seq ?_
       refine W_sr (WO_one rfl (One_load_own (d := 93) (t := 29) (x := (.tmp 8)) (.agg #[.slice a5 (List.length o2) c5]) kr rfl (ev (.pointer (some ⟨b3, 0, none⟩))) st.tail.head kr ?_))
       replace ⟨y7, hx12, hr⟩ := bindS hr
       refine WO_one rfl (One_fn 94 16 #[.agg #[.slice a5 (List.length o2) c5]] kr rfl ?_)
       refine (revision_Check_ok st r5 hx12).mono ?_
       clear st
       rintro _ w26 ⟨m16, rfl, hle11, st⟩
       refine ⟨_, rfl, ?_⟩
       have hm := Mem.le_trans hm hle11
       have r5 := r5.mono hle11
       have r16 := r16.mono hle11
       refine WO_seg 1 [(15, .int .i64 y7)] kr kr ?_
       refine WO_et rfl (W_sr ?_)
       refine WO_seg 2 [(96, .bool (y7 != 0))] kr kr ?_
       refine WO_et rfl (W_cond (y7 != 0) kr ?_ ?_)
       ·intro hc
        rw [if_pos hc] at hr
        refine W_sr (WO_seg 2 [(97, .agg #[.slice none (List.length ([] : List (ByteArray × ByteArray))) 0]), (98, .int .i64 y7)] kr kr ?_)
        have st := st.front2
        refine WO_one rfl (One_store (t := 29) (x := (.tmp 2)) (y := (.tmp 97)) (v := .agg #[.slice none (List.length ([] : List (ByteArray × ByteArray))) 0]) (c' := #[.slice none (List.length ([] : List (ByteArray × ByteArray))) 0]) kr (ev (.pointer (some ⟨b1, 0, none⟩))) (ev (.agg #[.slice none (List.length ([] : List (ByteArray × ByteArray))) 0])) st kr kr ?_)
        clear st
        intro w27 st
        refine WO_seg 1 [(3, .int .i64 y7)] kr kr ?_
        refine WO_et rfl (W_ret ?_)
        refine X_then_ret ?_
        obtain rfl := Option.some.inj hr
        refine X_ret [.cell 2 29, .tmp 3] [.agg #[.slice none (List.length ([] : List (ByteArray × ByteArray))) 0], .int .i64 y7] rfl (ResAll.cons (ResAt.blk (v := .agg #[.slice none (List.length ([] : List (ByteArray × ByteArray))) 0]) (o := 0) kr st.head kr) (ResAll.cons (ResAt.tmp kr) ResAll.nil)) ?_
        have st := st.nilroom 46 2
        have st := st.front1
        have st := st.tail
        have st := st.front1
        have st := st.tail
        have st := st.front1
        have st := st.tail
        have st := st.front1
        have st := st.tail
        exact ⟨none, 0, m16, rfl, hm, st, (RepS.nil _ _)⟩
       ·intro hc
        rw [if_neg (not_true hc)] at hr
        refine W_skip ?_
        refine X_then ?_
        refine W_sr (WO_one rfl (One_load_own (d := 99) (t := 29) (x := (.tmp 8)) (.agg #[.slice a5 (List.length o2) c5]) kr rfl (ev (.pointer (some ⟨b3, 0, none⟩))) st.tail.head kr ?_))
        have st := st.front2
        refine WO_one rfl (One_store (t := 29) (x := (.tmp 2)) (y := (.tmp 99)) (v := .agg #[.slice a5 (List.length o2) c5]) (c' := #[.slice a5 (List.length o2) c5]) kr (ev (.pointer (some ⟨b1, 0, none⟩))) (ev (.agg #[.slice a5 (List.length o2) c5])) st kr kr ?_)
        clear st
        intro w28 st
        refine WO_seg 1 [(3, .int .i64 0)] kr kr ?_
        refine WO_et rfl (W_ret ?_)
        obtain rfl := Option.some.inj hr
        refine X_ret [.cell 2 29, .tmp 3] [.agg #[.slice a5 (List.length o2) c5], .int .i64 0] rfl (ResAll.cons (ResAt.blk (v := .agg #[.slice a5 (List.length o2) c5]) (o := 0) kr st.head kr) (ResAll.cons (ResAt.tmp kr) ResAll.nil)) ?_
        have st := st.tail
        have st := st.tail
        have st := st.tail
        exact ⟨a5, c5, m16, rfl, hm, st, r5⟩
     ·intro K
      clear hrK
      refine WO_seg 1 [(83, .pointer (some ⟨b9, 0, none⟩))] kr kr ?_
      replace ⟨y6, hx11, hr⟩ := bindS hr
      refine WO_one rfl (One_fn 84 43 #[.pointer (some ⟨b9, 0, none⟩)] kr rfl ?_)
      refine (revision_payload_end_ok st r15 hx11).mono ?_
      clear st
      rintro _ w24 ⟨a16, c16, m15, rfl, hle10, st, r17⟩
      refine ⟨_, rfl, ?_⟩
      have hm := Mem.le_trans hm hle10
      have r15 := r15.mono hle10
      have r5 := r5.mono hle10
      refine WO_seg 2 [(86, .bool (!y6.2))] kr kr ?_
      rcases bcases (!y6.2) with hc | hc
      ·rw [if_pos hc] at hr
       refine WO_fact (t := 86) (b := true) (!y6.2) kr hc ?_
       refine WO_seg 5 [(91, .bool true)] kr kr ?_
       obtain rfl := Option.some.inj hr
       have st := st.front3.front3.front3.front3
       exact WO_env _ kr (K _ _ ⟨a16, c16, m15, rfl, hm, st, r17, r5⟩)
      ·rw [if_neg (not_true hc)] at hr
       refine WO_fact (t := 86) (b := false) (!y6.2) kr hc ?_
       refine WO_seg 5 [(91, .bool (y5.2 != (IntKind.wrap .u64 (IntKind.wrap .i64 ((List.length y1.1 : Int) - 1)))))] kr kr ?_
       obtain rfl := Option.some.inj hr
       have st := st.front3.front3.front3.front3
       exact WO_env _ kr (K _ _ ⟨a16, c16, m15, rfl, hm, st, r17, r5⟩)
    intro K0_u1
    have st := st.nilroom 46 2
    have st := st.front3.front3.front3
    refine W_env _ kr (W_loop (fun k1 L' w' => ∃ (s1 : Int × (List (ByteArray × ByteArray))) (a6 : Option Addr) (c6 : Nat) (m4 : Mem), loopM (revision_Decode_L1 N l1) k1 s1 = some out1 ∧ L' = [(2, .pointer (some ⟨b1, 0, none⟩)), (4, .slice a2 (List.length y1.1) c2), (7, .int .i64 (IntKind.wrap .i64 ((List.length y1.1 : Int) - 1))), (8, .pointer (some ⟨b3, 0, none⟩)), (42, .slice a4 (List.length l1) c4), (43, .int .i64 (List.length l1 : Int)), (44, .int .i64 s1.1)] ∧ m.le m4 ∧ St m4 (.blk b3 (.cells #[.slice a6 (List.length s1.2) c6] 29 (0, 0)) :: .blk b1 (.cells #[.slice none (List.length ([] : List (ByteArray × ByteArray))) 0] 29 (0, 0)) :: .room a2 (List.length y1.1) c2 37 2 :: .room a6 (List.length s1.2) c6 46 2 :: own) w' ∧ RepS (cPair (cInt .i64) (cSl cU8)) m4 a2 c2 y1.1 ∧ RepS (cPair (cInt .i64) (cSl cU8)) m4 a4 c4 l1 ∧ RepS (cPair cStr cStr) m4 a6 c6 s1.2) N ⟨(0, ([] : List (ByteArray × ByteArray))), none, 0, m2, hr, rfl, hm, st, r2, r4, (RepS.nil _ _)⟩ ?_)
    clear st hr
    rintro k1 _ w8 ⟨s1, a6, c6, m4, hL, rfl, hm, st, r2, r4, r6⟩
    rcases k1 with _ | k1
    ·exact loopM_zero hL
    ·obtain ⟨qu1, hr, hSu1, hBu1⟩ := loopM_succ hL
     clear hL
     unfold revision_Decode_L1 at hr
     refine W_sr (WO_seg 1 [(45, .bool (decide (s1.1 < (List.length l1 : Int))))] kr kr ?_)
     refine WO_et rfl (W_seq ?_)
     refine W_cond (decide (s1.1 < (List.length l1 : Int))) kr ?_ ?_
     ·intro hc
      rw [if_pos hc] at hr
      refine W_skip ?_
      refine X_then ?_
      refine W_seq ?_
      refine W_block ?_
      refine W_sr ?_
      replace ⟨x2, hx4, hr⟩ := bindS hr
      refine WO_one rfl (One_index (d := 46) (t := 67) (e := 37) (x := (.tmp 42)) (y := (.tmp 44)) (cPair (cInt .i64) (cSl cU8)) kr rfl (ev (.slice a4 (List.length l1) c4)) (ev (.int .i64 s1.1)) kr r4 hx4 ?_)
      rintro b4 f2 cs2 ⟨_, _, rfl, rfl, ⟨a7, c7, rfl, r7⟩⟩ hq2
      refine WO_one rfl (One_load_row (d := 47) (t := 37) (x := (.tmp 46)) (.agg #[.int .i64 x2.1, .slice a7 (List.length x2.2) c7]) kr rfl (ev (.pointer (some ⟨b4, f2, none⟩))) st hq2 kr ?_)
      refine WO_one rfl (One_alloc (d := 10) (e := 37) (.agg #[.int .i64 0, .slice none 0 0]) kr rfl kr st ?_)
      clear st
      intro b5 w9 st
      refine WO_one rfl (One_store (t := 37) (x := (.tmp 10)) (y := (.tmp 47)) (v := .agg #[.int .i64 x2.1, .slice a7 (List.length x2.2) c7]) (c' := #[.int .i64 x2.1, .slice a7 (List.length x2.2) c7]) kr (ev (.pointer (some ⟨b5, 0, none⟩))) (ev (.agg #[.int .i64 x2.1, .slice a7 (List.length x2.2) c7])) st kr kr ?_)
      clear st
      intro w10 st
      refine WO_et rfl (W_sr ?_)
      refine WO_seg 1 [(48, .pointer (some ⟨b5, 1, none⟩))] kr kr ?_
      refine WO_one rfl (One_load_own (d := 49) (t := 23) (x := (.tmp 48)) (.slice a7 (List.length x2.2) c7) kr rfl (ev (.pointer (some ⟨b5, 1, none⟩))) st.head kr ?_)
      refine WO_seg 1 [(50, .agg #[.slice a7 (List.length x2.2) c7, .int .i64 0, .bool false])] kr kr ?_
      refine WO_one rfl (One_box_own (d := 51) (e := 72) (x := (.tmp 50)) (.agg #[.slice a7 (List.length x2.2) c7, .int .i64 0, .bool false]) kr rfl kr st ?_)
      clear st
      intro b6 w11 st
      refine WO_seg 1 [(11, .pointer (some ⟨b6, 0, none⟩))] kr kr ?_
      refine WO_et rfl (W_sr ?_)
      refine WO_seg 3 [(12, .func (.func 42) #[.pointer (some ⟨b6, 0, none⟩)] #[])] kr kr ?_
      refine WO_et rfl (W_seq ?_)
      refine W_draw [(11, fun w' => Inv m4 w' ∧ True), (10, fun w' => Inv m4 w' ∧ Piece.holds m4 w' (.blk b3 (.cells #[.slice a6 (List.length s1.2) c6] 29 (0, 0))) ∧ True)] kr st ?_
      clear st
      intro w12 _ st
      have hmS1 := m4.le_refl
      refine ⟨⟨.inr ⟨Inv.anti st.inv hmS1, trivial⟩, ⟨.inr ⟨Inv.anti st.inv hmS1, Piece.holds_anti st.tail.tail.head hmS1, trivial⟩, trivial⟩⟩, ?_⟩
      refine WA_pure 0 54 (.pointer (some ⟨b3, 0, none⟩)) kr rfl kr (.head _) (QP_then (QP_block (QP_then (QP_then (QP_block (QP_then QP_body)))))) ?_
      refine WA_load_own (t := 27) (x := (.tmp 54)) 1 55 (.slice a6 (List.length s1.2) c6) kr rfl kr (.tail _ (.head _)) (QP_then (QP_block (QP_then (QP_then (QP_block (QP_then QP_body)))))) (fun _ h => h.2.1) (ev (.pointer (some ⟨b3, 0, none⟩))) kr ?_
      refine WA_pure 2 56 (.func (.func 42) #[.pointer (some ⟨b6, 0, none⟩)] #[]) kr rfl kr (.head _) (QP_then (QP_block (QP_then (QP_then (QP_block (QP_then QP_body)))))) ?_
      refine WA_pure 4 58 (.func (.func 42) #[.pointer (some ⟨b6, 0, none⟩)] #[]) kr rfl kr (.head _) (QP_then (QP_block (QP_then (QP_then (QP_block (QP_then QP_body)))))) ?_
      replace ⟨y2, hx5, hr⟩ := bindS hr
      refine WA_one 3 kr  (One_fn 57 42 #[.pointer (some ⟨b6, 0, none⟩)] kr rfl ?_)
      refine (revision_payload_text_ok st r7 hx5).mono ?_
      clear st
      rintro _ w13 ⟨a8, c8, m6, rfl, hle3, st, r8⟩
      refine ⟨_, rfl, ?_⟩
      have hm := Mem.le_trans hm hle3
      have r2 := r2.mono hle3
      have r4 := r4.mono hle3
      have r6 := r6.mono hle3
      have r7 := r7.mono hle3
      have hmS1 := Mem.le_trans hmS1 hle3
      refine ⟨⟨.inr ⟨Inv.anti st.inv hmS1, trivial⟩, ⟨.inr ⟨Inv.anti st.inv hmS1, Piece.holds_anti st.tail.tail.head hmS1, trivial⟩, trivial⟩⟩, ?_⟩
      replace ⟨y3, hx6, hr⟩ := bindS hr
      refine WA_one 5 kr  (One_fn 59 42 #[.pointer (some ⟨b6, 0, none⟩)] kr rfl ?_)
      refine (revision_payload_text_ok st r8 hx6).mono ?_
      clear st
      rintro _ w14 ⟨a9, c9, m7, rfl, hle4, st, r9⟩
      refine ⟨_, rfl, ?_⟩
      have hm := Mem.le_trans hm hle4
      have r2 := r2.mono hle4
      have r4 := r4.mono hle4
      have r6 := r6.mono hle4
      have r8 := r8.mono hle4
      have r7 := r7.mono hle4
      have hmS1 := Mem.le_trans hmS1 hle4
      refine ⟨⟨.inr ⟨Inv.anti st.inv hmS1, trivial⟩, ⟨.inr ⟨Inv.anti st.inv hmS1, Piece.holds_anti st.tail.tail.head hmS1, trivial⟩, trivial⟩⟩, ?_⟩
      refine WA_pure 6 60 (.agg #[.string y2.2, .string y3.2]) kr rfl kr (.head _) (QP_then (QP_block (QP_then (QP_then (QP_block (QP_then QP_body)))))) ?_
      refine WA_one 7 kr  (One_buildSlice (d := 61) (t := 27) (e := 46) (len := 1) (parts := #[(0, (.tmp 60))]) (cPair cStr cStr) (xs := [(y2.2, y3.2)]) [.string y2.2, .string y3.2] kr rfl (fun _ => buildCells_run kr _) rfl rfl st ⟨[.string y2.2, .string y3.2], _, rfl, ⟨_, _, rfl, rfl, rfl⟩, rfl⟩ ?_)
      clear st
      intro b7 m8 w15 hle5 st r10
      have hm := Mem.le_trans hm hle5
      have r2 := r2.mono hle5
      have r4 := r4.mono hle5
      have r6 := r6.mono hle5
      have r9 := r9.mono hle5
      have r7 := r7.mono hle5
      have hmS1 := Mem.le_trans hmS1 hle5
      refine ⟨⟨.inr ⟨Inv.anti st.inv hmS1, trivial⟩, ⟨.inr ⟨Inv.anti st.inv hmS1, Piece.holds_anti st.tail.tail.tail.head hmS1, trivial⟩, trivial⟩⟩, ?_⟩
      have st := st.front6
      replace ⟨l2, hx7, hr⟩ := bindS hr
      refine WA_one 8 kr  (One_append (d := 62) (t := 27) (u := 27) (e := 46) (by_ := 32) (x := (.tmp 55)) (y := (.tmp 61)) (cPair cStr cStr) kr rfl (ev (.slice a6 (List.length s1.2) c6)) (ev (.slice (some ⟨b7, 0, none⟩) (List.length ([(y2.2, y3.2)])) 1)) st kr (.inl kr) r6 r10.src hx7 ?_)
      clear st
      intro a10 c10 m9 w16 hle6 st r11
      have hm := Mem.le_trans hm hle6
      have r2 := r2.mono hle6
      have r4 := r4.mono hle6
      have r6 := r6.mono hle6
      have r10 := r10.mono hle6
      have r9 := r9.mono hle6
      have r7 := r7.mono hle6
      have hmS1 := Mem.le_trans hmS1 hle6
      refine ⟨⟨.inr ⟨Inv.anti st.inv hmS1, trivial⟩, ⟨.inr ⟨Inv.anti st.inv hmS1, Piece.holds_anti st.tail.tail.tail.tail.head hmS1, trivial⟩, trivial⟩⟩, ?_⟩
      refine WA_pure 9 63 (.pointer (some ⟨b3, 0, none⟩)) kr rfl kr (.head _) (QP_then (QP_block (QP_then (QP_then (QP_block (QP_then QP_body)))))) ?_
      have st := st.front4
      refine WA_one 10 kr  (One_store (t := 27) (x := (.tmp 63)) (y := (.tmp 62)) (v := .slice a10 (List.length l2) c10) (c' := #[.slice a10 (List.length l2) c10]) kr (ev (.pointer (some ⟨b3, 0, none⟩))) (ev (.slice a10 (List.length l2) c10)) st kr kr ?_)
      clear st
      intro w17 st
      refine ⟨⟨.inr ⟨Inv.anti st.inv hmS1, trivial⟩, ⟨.inl rfl, trivial⟩⟩, ?_⟩
      refine WA_done kr ?_
      have st := st.front2
      have st := st.tail
      refine X_then ?_
      refine W_sr ?_
      replace ⟨o3, hr, hrK⟩ := bindS hr
      refine WO_cut (j := 8) (fun L' w' => ∃ (a11 : Option Addr) (c11 : Nat) (m10 : Mem), L' = [(2, .pointer (some ⟨b1, 0, none⟩)), (4, .slice a2 (List.length y1.1) c2), (7, .int .i64 (IntKind.wrap .i64 ((List.length y1.1 : Int) - 1))), (8, .pointer (some ⟨b3, 0, none⟩)), (42, .slice a4 (List.length l1) c4), (43, .int .i64 (List.length l1 : Int)), (44, .int .i64 s1.1), (71, .bool o3.1)] ∧ m.le m10 ∧ St m10 (.blk b3 (.cells #[.slice a10 (List.length l2) c10] 29 (0, 0)) :: .blk b6 (.cells #[.slice a11 (List.length o3.2.1) c11, .int .i64 o3.2.2.1, .bool o3.2.2.2] 72 (0, 0)) :: .blk b5 (.cells #[.int .i64 x2.1, .slice a7 (List.length x2.2) c7] 37 (0, 0)) :: .blk b1 (.cells #[.slice none (List.length ([] : List (ByteArray × ByteArray))) 0] 29 (0, 0)) :: .room a10 (List.length l2) c10 46 2 :: .room a2 (List.length y1.1) c2 37 2 :: own) w' ∧ RepS (cPair (cInt .i64) (cSl cU8)) m10 a2 c2 y1.1 ∧ RepS (cPair (cInt .i64) (cSl cU8)) m10 a4 c4 l1 ∧ RepS (cPair cStr cStr) m10 a10 c10 l2 ∧ RepS cU8 m10 a11 c11 o3.2.1 ∧ RepS cU8 m10 a7 c7 x2.2) ?_ ?_
      ·clear hr st
       have hr := hrK
       clear hrK
       rintro _ w18 ⟨a11, c11, m10, rfl, hm, st, r2, r4, r11, r12, r7⟩
       refine WO_et rfl (W_cond o3.1 kr ?_ ?_)
       ·intro hc
        rw [if_pos hc] at hr
        refine W_sr (WO_seg 1 [(72, .agg #[.slice none (List.length ([] : List (ByteArray × ByteArray))) 0])] kr kr ?_)
        have st := st.front3
        refine WO_one rfl (One_store (t := 29) (x := (.tmp 2)) (y := (.tmp 72)) (v := .agg #[.slice none (List.length ([] : List (ByteArray × ByteArray))) 0]) (c' := #[.slice none (List.length ([] : List (ByteArray × ByteArray))) 0]) kr (ev (.pointer (some ⟨b1, 0, none⟩))) (ev (.agg #[.slice none (List.length ([] : List (ByteArray × ByteArray))) 0])) st kr kr ?_)
        clear st
        intro w20 st
        refine WO_seg 1 [(3, .int .i64 6)] kr kr ?_
        refine WO_end rfl ?_
        have st := st.front5
        have st := st.tail
        refine X_then ?_
        refine W_ret ?_
        refine X_block_ret ?_
        refine X_then_ret ?_
        obtain rfl := Option.some.inj hr
        have ho := hBu1 _ rfl
        subst ho
        have hr := hrKu1
        dsimp only at hr
        refine X_then_ret ?_
        refine X_block_ret ?_
        refine X_then_ret ?_
        obtain rfl := Option.some.inj hr
        refine X_ret [.cell 2 29, .tmp 3] [.agg #[.slice none (List.length ([] : List (ByteArray × ByteArray))) 0], .int .i64 6] rfl (ResAll.cons (ResAt.blk (v := .agg #[.slice none (List.length ([] : List (ByteArray × ByteArray))) 0]) (o := 0) kr st.head kr) (ResAll.cons (ResAt.tmp kr) ResAll.nil)) ?_
        have st := st.nilroom 46 2
        have st := st.front1
        have st := st.tail
        have st := st.front1
        have st := st.tail
        have st := st.front1
        have st := st.tail
        have st := st.front1
        have st := st.tail
        have st := st.front1
        have st := st.tail
        exact ⟨none, 0, m10, rfl, hm, st, (RepS.nil _ _)⟩
       ·intro hc
        rw [if_neg (not_true hc)] at hr
        refine W_skip ?_
        refine X_block ?_
        refine X_then ?_
        refine W_region ?_
        refine WO_seg 2 [(44, .int .i64 (IntKind.wrap .i64 (s1.1 + 1)))] kr kr ?_
        refine WO_end rfl ?_
        obtain rfl := Option.some.inj hr
        have hL := hSu1 _ rfl
        have st := st.front1
        have st := st.tail
        have st := st.front1
        have st := st.tail
        have st := st.front2.front3.front3.front3
        exact X_env _ kr (X_round k1 (Nat.lt_succ_self _) ⟨(IntKind.wrap .i64 (s1.1 + 1), l2), a10, c10, m10, hL, rfl, hm, st, r2, r4, r11⟩)
      ·intro K
       clear hrK
       refine WO_seg 1 [(64, .pointer (some ⟨b5, 0, none⟩))] kr kr ?_
       refine WO_one rfl (One_load_own (d := 65) (t := 3) (x := (.tmp 64)) (.int .i64 x2.1) kr rfl (ev (.pointer (some ⟨b5, 0, none⟩))) st.tail.tail.tail.head kr ?_)
       refine WO_seg 2 [(67, .bool (x2.1 != 1))] kr kr ?_
       rcases bcases (x2.1 != 1) with hc | hc
       ·rw [if_pos hc] at hr
        refine WO_fact (t := 67) (b := true) (x2.1 != 1) kr hc ?_
        refine WO_seg 4 [(71, .bool true)] kr kr ?_
        obtain rfl := Option.some.inj hr
        have st := st.front5.front2.front5.front5.front5.front5
        exact WO_env _ kr (K _ _ ⟨a9, c9, m9, rfl, hm, st, r2, r4, r11, r9, r7⟩)
       ·rw [if_neg (not_true hc)] at hr
        refine WO_fact (t := 67) (b := false) (x2.1 != 1) kr hc ?_
        refine WO_seg 1 [(68, .pointer (some ⟨b6, 0, none⟩))] kr kr ?_
        have st := st.front2
        replace ⟨y4, hx8, hr⟩ := bindS hr
        refine WO_one rfl (One_fn 69 43 #[.pointer (some ⟨b6, 0, none⟩)] kr rfl ?_)
        refine (revision_payload_end_ok st r9 hx8).mono ?_
        clear st
        rintro _ w19 ⟨a12, c12, m11, rfl, hle7, st, r13⟩
        refine ⟨_, rfl, ?_⟩
        have hm := Mem.le_trans hm hle7
        have r2 := r2.mono hle7
        have r4 := r4.mono hle7
        have r9 := r9.mono hle7
        have r11 := r11.mono hle7
        have r7 := r7.mono hle7
        refine WO_seg 2 [(71, .bool (!y4.2))] kr kr ?_
        obtain rfl := Option.some.inj hr
        have st := st.front5.front3.front5.front5.front4.front5
        exact WO_env _ kr (K _ _ ⟨a12, c12, m11, rfl, hm, st, r2, r4, r11, r13, r7⟩)
     ·intro hc
      rw [if_neg (not_true hc)] at hr
      refine W_exit ?_
      refine X_then_exit ?_
      obtain rfl := Option.some.inj hr
      have ho := hBu1 _ rfl
      have st := st.front3.front3.front3.front3
      refine X_then_exit ?_
      exact X_env _ kr (K0_u1 _ _ ⟨s1.2, a6, c6, m4, ho, rfl, hm, st, r2, r6⟩)
  ·intro K
   clear hrK
   refine WO_seg 3 [(31, .bool (decide ((IntKind.wrap .i64 ((List.length y1.1 : Int) - 1)) < 0)))] kr kr ?_
   rcases bcases (decide ((IntKind.wrap .i64 ((List.length y1.1 : Int) - 1)) < 0)) with hc | hc
   ·rw [if_pos hc] at hr
    refine WO_fact (t := 31) (b := true) (decide ((IntKind.wrap .i64 ((List.length y1.1 : Int) - 1)) < 0)) kr hc ?_
    refine WO_seg 7 [(38, .bool true)] kr kr ?_
    obtain rfl := Option.some.inj hr
    have st := st.front1
    exact WO_env _ kr (K _ _ ⟨m1, rfl, hm, st, r2⟩)
   ·rw [if_neg (not_true hc)] at hr
    refine WO_fact (t := 31) (b := false) (decide ((IntKind.wrap .i64 ((List.length y1.1 : Int) - 1)) < 0)) kr hc ?_
    refine WO_seg 2 [(32, .slice a2 (List.length y1.1) c2), (33, .int .i64 (IntKind.wrap .i64 ((List.length y1.1 : Int) - 1)))] kr kr ?_
    replace ⟨x1, hx2, hr⟩ := bindS hr
    refine WO_one rfl (One_index (d := 34) (t := 67) (e := 37) (x := (.tmp 32)) (y := (.tmp 33)) (cPair (cInt .i64) (cSl cU8)) kr rfl (ev (.slice a2 (List.length y1.1) c2)) (ev (.int .i64 (IntKind.wrap .i64 ((List.length y1.1 : Int) - 1)))) kr r2 hx2 ?_)
    rintro b2 f1 cs1 ⟨_, _, rfl, rfl, ⟨a3, c3, rfl, r3⟩⟩ hq1
    refine WO_seg 1 [(35, .pointer (some ⟨b2, f1, none⟩))] kr kr ?_
    refine WO_one rfl (One_load_row (d := 36) (t := 3) (x := (.tmp 35)) (.int .i64 x1.1) kr rfl (ev (.pointer (some ⟨b2, f1, none⟩))) st hq1 kr ?_)
    refine WO_seg 2 [(38, .bool (x1.1 != 2))] kr kr ?_
    obtain rfl := Option.some.inj hr
    have st := st.front1
    exact WO_env _ kr (K _ _ ⟨m1, rfl, hm, st, r2⟩)
def testgateref03_Uint_L1 (N : Nat) (p0 : List UInt8) (s1 : Int) : Option ((Int) ⊕ ((Int))) :=
 (if (decide (s1 < (List.length p0 : Int))) = true then ((idx p0 s1).bind fun x1 => some (decide ((x1.toNat : Int) ≥ 128))) else (some false) : Option (Bool)).bind fun o3 => if o3 = true then (some (.inl (IntKind.wrap .i64 (s1 + 1)))) else (some (.inr s1))
def testgateref03_Uint_L2 (N : Nat) (p0 : List UInt8) (p1 : Int) (s2 : Int × Int) : Option ((Int × Int) ⊕ ((Int))) :=
 if (decide (s2.2 ≥ p1)) = true then ((idx p0 s2.2).bind fun x5 => some (.inl (IntKind.wrap .u64 ((IntKind.wrap .u64 (s2.1 * 128)) + (IntKind.wrap .u64 (Int.tmod (x5.toNat : Int) 128))), IntKind.wrap .i64 (s2.2 - 1)))) else (some (.inr s2.1))
def testgateref03_Uint (N : Nat) (p0 : List UInt8) (p1 : Int) : Option (Int × Int × Int) :=
 (if (decide (p1 < 0)) = true then (some true) else (some (decide (p1 > (List.length p0 : Int)))) : Option (Bool)).bind fun o1 => if o1 = true then (some (0, 0, 3)) else ((loopM (testgateref03_Uint_L1 N p0) N p1).bind fun o2 => if (o2 == (List.length p0 : Int)) = true then (some (0, 0, 7)) else ((if (decide ((IntKind.wrap .i64 (o2 - p1)) ≥ 10)) = true then (some true) else (if ((IntKind.wrap .i64 (o2 - p1)) == 9) = true then ((idx p0 o2).bind fun x2 => if (decide ((x2.toNat : Int) > 1)) = true then (some true) else (if (decide (o2 > p1)) = true then ((idx p0 o2).bind fun x3 => some ((x3.toNat : Int) == 0)) else (some false))) else (if (decide (o2 > p1)) = true then ((idx p0 o2).bind fun x4 => some ((x4.toNat : Int) == 0)) else (some false))) : Option (Bool)).bind fun o4 => if o4 = true then (some (0, 0, 6)) else ((loopM (testgateref03_Uint_L2 N p0 p1) N (0, o2)).bind fun o5 => some (o5, IntKind.wrap .i64 (o2 + 1), 0))))
set_option maxHeartbeats 4000000 in
set_option maxRecDepth 100000 in
theorem testgateref03_Uint_ok {N : Nat} {m : Mem} {own : List Piece} {w : World} {p0 : List UInt8} {p1 : Int} {a1 : Option Addr} {c1 : Nat} {r : Int × Int × Int} (st : St m (own) w) (r1 : RepS cU8 m a1 c1 p0) (hr : testgateref03_Uint N p0 p1 = some r) : Calls Tryz.prog 47 #[.slice a1 (List.length p0) c1, .int .i64 p1] w fun e w' => ∃ (m' : Mem), e = .returned (.tuple #[.int .u64 r.1, .int .i64 r.2.1, .int .i64 r.2.2]) ∧ m.le m' ∧ St m' (own) w' := by
 unfold testgateref03_Uint at hr
 have hm := m.le_refl
 refine W_calls Tryz.func47 rfl Tryz.ntmps47 [(0, .slice a1 (List.length p0) c1), (1, .int .i64 p1)] kr rfl ?_
 refine W_sr (WO_seg 3 [(4, .int .u64 0)] kr kr ?_)
 refine WO_et rfl (W_seq ?_)
 refine W_sr ?_
 replace ⟨o1, hr, hrK⟩ := bindS hr
 refine WO_cut (j := 8) (fun L' w' => ∃ (m1 : Mem), L' = [(0, .slice a1 (List.length p0) c1), (1, .int .i64 p1), (4, .int .u64 0), (16, .bool o1)] ∧ m.le m1 ∧ St m1 (own) w' ∧ RepS cU8 m1 a1 c1 p0) ?_ ?_
 ·clear hr st
  have hr := hrK
  clear hrK
  rintro _ w1 ⟨m1, rfl, hm, st, r1⟩
  refine WO_et rfl (W_cond o1 kr ?_ ?_)
  ·intro hc
   rw [if_pos hc] at hr
   refine W_sr (WO_seg 3 [(4, .int .u64 0), (5, .int .i64 0), (6, .int .i64 3)] kr kr ?_)
   refine WO_et rfl (W_ret ?_)
   refine X_then_ret ?_
   obtain rfl := Option.some.inj hr
   refine X_ret [.tmp 4, .tmp 5, .tmp 6] [.int .u64 0, .int .i64 0, .int .i64 3] rfl (ResAll.cons (ResAt.tmp kr) (ResAll.cons (ResAt.tmp kr) (ResAll.cons (ResAt.tmp kr) ResAll.nil))) ?_
   exact ⟨m1, rfl, hm, st⟩
  ·intro hc
   rw [if_neg (not_true hc)] at hr
   refine W_skip ?_
   refine X_then ?_
   refine W_sr (WO_seg 2 [(7, .int .i64 p1)] kr kr ?_)
   refine WO_et rfl (W_seq ?_)
   refine W_block ?_
   replace ⟨out1, hr, hrKu1⟩ := bindS hr
   refine W_cut (.exit 0) (fun L' w' => ∃ (o2 : Int) (m2 : Mem), o2 = out1 ∧ L' = [(0, .slice a1 (List.length p0) c1), (1, .int .i64 p1), (4, .int .u64 0), (7, .int .i64 o2)] ∧ m.le m2 ∧ St m2 (own) w' ∧ RepS cU8 m2 a1 c1 p0) ?_ ?_
   ·clear hr st
    rintro _ w2 ⟨o2, m2, rfl, rfl, hm, st, r1⟩
    have hr := hrKu1
    clear hrKu1
    refine X_block_eq ?_
    refine X_then ?_
    refine W_seq ?_
    refine W_sr (WO_seg 4 [(34, .bool (o2 == (List.length p0 : Int)))] kr kr ?_)
    refine WO_et rfl (W_cond (o2 == (List.length p0 : Int)) kr ?_ ?_)
    ·intro hc
     rw [if_pos hc] at hr
     refine W_sr (WO_seg 3 [(4, .int .u64 0), (5, .int .i64 0), (6, .int .i64 7)] kr kr ?_)
     refine WO_et rfl (W_ret ?_)
     refine X_then_ret ?_
     obtain rfl := Option.some.inj hr
     refine X_ret [.tmp 4, .tmp 5, .tmp 6] [.int .u64 0, .int .i64 0, .int .i64 7] rfl (ResAll.cons (ResAt.tmp kr) (ResAll.cons (ResAt.tmp kr) (ResAll.cons (ResAt.tmp kr) ResAll.nil))) ?_
     exact ⟨m2, rfl, hm, st⟩
    ·intro hc
     rw [if_neg (not_true hc)] at hr
     refine W_skip ?_
     refine X_then ?_
     refine W_seq ?_
     refine W_sr ?_
     replace ⟨o4, hr, hrK⟩ := bindS hr
     refine WO_cut (j := 29) (fun L' w' => ∃ (m5 : Mem), L' = [(0, .slice a1 (List.length p0) c1), (1, .int .i64 p1), (4, .int .u64 0), (7, .int .i64 o2), (63, .bool o4)] ∧ m.le m5 ∧ St m5 (own) w' ∧ RepS cU8 m5 a1 c1 p0) ?_ ?_
     ·clear hr st
      have hr := hrK
      clear hrK
      rintro _ w5 ⟨m5, rfl, hm, st, r1⟩
      refine WO_et rfl (W_cond o4 kr ?_ ?_)
      ·intro hc
       rw [if_pos hc] at hr
       refine W_sr (WO_seg 3 [(4, .int .u64 0), (5, .int .i64 0), (6, .int .i64 6)] kr kr ?_)
       refine WO_et rfl (W_ret ?_)
       refine X_then_ret ?_
       obtain rfl := Option.some.inj hr
       refine X_ret [.tmp 4, .tmp 5, .tmp 6] [.int .u64 0, .int .i64 0, .int .i64 6] rfl (ResAll.cons (ResAt.tmp kr) (ResAll.cons (ResAt.tmp kr) (ResAll.cons (ResAt.tmp kr) ResAll.nil))) ?_
       exact ⟨m5, rfl, hm, st⟩
      ·intro hc
       rw [if_neg (not_true hc)] at hr
       refine W_skip ?_
       refine X_then ?_
       refine W_seq ?_
       refine W_sr (WO_seg 2 [(8, .int .i64 o2)] kr kr ?_)
       refine WO_et rfl (W_block ?_)
       replace ⟨out2, hr, hrKu3⟩ := bindS hr
       refine W_cut (.exit 2) (fun L' w' => ∃ (o5 : Int) (m6 : Mem), o5 = out2 ∧ L' = [(4, .int .u64 o5), (7, .int .i64 o2)] ∧ m.le m6 ∧ St m6 (own) w') ?_ ?_
       ·clear hr st
        rintro _ w6 ⟨o5, m6, rfl, rfl, hm, st⟩
        have hr := hrKu3
        clear hrKu3
        refine X_block_eq ?_
        refine X_then ?_
        refine W_sr (WO_seg 6 [(4, .int .u64 o5), (5, .int .i64 (IntKind.wrap .i64 (o2 + 1))), (6, .int .i64 0)] kr kr ?_)
        refine WO_et rfl (W_ret ?_)
        obtain rfl := Option.some.inj hr
        refine X_ret [.tmp 4, .tmp 5, .tmp 6] [.int .u64 o5, .int .i64 (IntKind.wrap .i64 (o2 + 1)), .int .i64 0] rfl (ResAll.cons (ResAt.tmp kr) (ResAll.cons (ResAt.tmp kr) (ResAll.cons (ResAt.tmp kr) ResAll.nil))) ?_
        exact ⟨m6, rfl, hm, st⟩
       intro K2_u3
       clear hrKu3
       refine W_env _ kr (W_loop (fun k2 L' w' => ∃ (s2 : Int × Int) (m7 : Mem), loopM (testgateref03_Uint_L2 N p0 p1) k2 s2 = some out2 ∧ L' = [(0, .slice a1 (List.length p0) c1), (1, .int .i64 p1), (4, .int .u64 s2.1), (7, .int .i64 o2), (8, .int .i64 s2.2)] ∧ m.le m7 ∧ St m7 (own) w' ∧ RepS cU8 m7 a1 c1 p0) N ⟨(0, o2), m5, hr, rfl, hm, st, r1⟩ ?_)
       clear st hr
       rintro k2 _ w7 ⟨s2, m7, hL, rfl, hm, st, r1⟩
       rcases k2 with _ | k2
       ·exact loopM_zero hL
       ·obtain ⟨qu3, hr, hSu3, hBu3⟩ := loopM_succ hL
        clear hL
        unfold testgateref03_Uint_L2 at hr
        refine W_seq ?_
        refine W_sr (WO_seg 3 [(67, .bool (decide (s2.2 ≥ p1)))] kr kr ?_)
        refine WO_et rfl (W_cond (decide (s2.2 ≥ p1)) kr ?_ ?_)
        ·intro hc
         rw [if_pos hc] at hr
         refine W_skip ?_
         refine X_then ?_
         refine W_seq ?_
         refine W_block ?_
         refine W_region ?_
         refine WO_seg 4 [(71, .int .u64 (IntKind.wrap .u64 (s2.1 * 128))), (72, .slice a1 (List.length p0) c1), (73, .int .i64 s2.2)] kr kr ?_
         replace ⟨x5, hx5, hr⟩ := bindS hr
         refine WO_one rfl (One_index (d := 74) (t := 23) (e := 5) (x := (.tmp 72)) (y := (.tmp 73)) cU8 kr rfl (ev (.slice a1 (List.length p0) c1)) (ev (.int .i64 s2.2)) kr r1 hx5 ?_)
         rintro b5 f5 cs5 rfl hq5
         refine WO_one rfl (One_load_row (d := 75) (t := 5) (x := (.tmp 74)) (.int .u8 (x5.toNat : Int)) kr rfl (ev (.pointer (some ⟨b5, f5, none⟩))) st hq5 kr ?_)
         refine WO_seg 4 [(4, .int .u64 (IntKind.wrap .u64 ((IntKind.wrap .u64 (s2.1 * 128)) + (IntKind.wrap .u64 (Int.tmod (x5.toNat : Int) 128)))))] kr kr ?_
         refine WO_end rfl ?_
         refine X_block ?_
         refine X_then ?_
         refine W_region ?_
         refine WO_seg 3 [(8, .int .i64 (IntKind.wrap .i64 (s2.2 - 1)))] kr kr ?_
         refine WO_end rfl ?_
         obtain rfl := Option.some.inj hr
         have hL := hSu3 _ rfl
         exact X_env _ kr (X_round k2 (Nat.lt_succ_self _) ⟨(IntKind.wrap .u64 ((IntKind.wrap .u64 (s2.1 * 128)) + (IntKind.wrap .u64 (Int.tmod (x5.toNat : Int) 128))), IntKind.wrap .i64 (s2.2 - 1)), m7, hL, rfl, hm, st, r1⟩)
        ·intro hc
         rw [if_neg (not_true hc)] at hr
         refine W_exit ?_
         refine X_then_exit ?_
         obtain rfl := Option.some.inj hr
         have ho := hBu3 _ rfl
         refine X_then_exit ?_
         exact X_env _ kr (K2_u3 _ _ ⟨s2.1, m7, ho, rfl, hm, st⟩)
     ·intro K
      clear hrK
      refine WO_seg 5 [(39, .bool (decide ((IntKind.wrap .i64 (o2 - p1)) ≥ 10)))] kr kr ?_
      rcases bcases (decide ((IntKind.wrap .i64 (o2 - p1)) ≥ 10)) with hc | hc
      ·rw [if_pos hc] at hr
       refine WO_fact (t := 39) (b := true) (decide ((IntKind.wrap .i64 (o2 - p1)) ≥ 10)) kr hc ?_
       refine WO_seg 24 [(63, .bool true)] kr kr ?_
       obtain rfl := Option.some.inj hr
       exact WO_env _ kr (K _ _ ⟨m2, rfl, hm, st, r1⟩)
      ·rw [if_neg (not_true hc)] at hr
       refine WO_fact (t := 39) (b := false) (decide ((IntKind.wrap .i64 (o2 - p1)) ≥ 10)) kr hc ?_
       refine WO_seg 5 [(44, .bool ((IntKind.wrap .i64 (o2 - p1)) == 9))] kr kr ?_
       rcases bcases ((IntKind.wrap .i64 (o2 - p1)) == 9) with hc | hc
       ·rw [if_pos hc] at hr
        refine WO_fact (t := 44) (b := true) ((IntKind.wrap .i64 (o2 - p1)) == 9) kr hc ?_
        refine WO_seg 2 [(45, .slice a1 (List.length p0) c1), (46, .int .i64 o2)] kr kr ?_
        replace ⟨x2, hx2, hr⟩ := bindS hr
        refine WO_one rfl (One_index (d := 47) (t := 23) (e := 5) (x := (.tmp 45)) (y := (.tmp 46)) cU8 kr rfl (ev (.slice a1 (List.length p0) c1)) (ev (.int .i64 o2)) kr r1 hx2 ?_)
        rintro b2 f2 cs2 rfl hq2
        refine WO_one rfl (One_load_row (d := 48) (t := 5) (x := (.tmp 47)) (.int .u8 (x2.toNat : Int)) kr rfl (ev (.pointer (some ⟨b2, f2, none⟩))) st hq2 kr ?_)
        refine WO_seg 4 [(52, .bool (decide ((x2.toNat : Int) > 1)))] kr kr ?_
        rcases bcases (decide ((x2.toNat : Int) > 1)) with hc | hc
        ·rw [if_pos hc] at hr
         refine WO_fact (t := 52) (b := true) (decide ((x2.toNat : Int) > 1)) kr hc ?_
         refine WO_seg 11 [(63, .bool true)] kr kr ?_
         obtain rfl := Option.some.inj hr
         exact WO_env _ kr (K _ _ ⟨m2, rfl, hm, st, r1⟩)
        ·rw [if_neg (not_true hc)] at hr
         refine WO_fact (t := 52) (b := false) (decide ((x2.toNat : Int) > 1)) kr hc ?_
         refine WO_seg 4 [(56, .bool (decide (o2 > p1)))] kr kr ?_
         rcases bcases (decide (o2 > p1)) with hc | hc
         ·rw [if_pos hc] at hr
          refine WO_fact (t := 56) (b := true) (decide (o2 > p1)) kr hc ?_
          refine WO_seg 2 [(57, .slice a1 (List.length p0) c1), (58, .int .i64 o2)] kr kr ?_
          replace ⟨x3, hx3, hr⟩ := bindS hr
          refine WO_one rfl (One_index (d := 59) (t := 23) (e := 5) (x := (.tmp 57)) (y := (.tmp 58)) cU8 kr rfl (ev (.slice a1 (List.length p0) c1)) (ev (.int .i64 o2)) kr r1 hx3 ?_)
          rintro b3 f3 cs3 rfl hq3
          refine WO_one rfl (One_load_row (d := 60) (t := 5) (x := (.tmp 59)) (.int .u8 (x3.toNat : Int)) kr rfl (ev (.pointer (some ⟨b3, f3, none⟩))) st hq3 kr ?_)
          refine WO_seg 3 [(63, .bool ((x3.toNat : Int) == 0))] kr kr ?_
          obtain rfl := Option.some.inj hr
          exact WO_env _ kr (K _ _ ⟨m2, rfl, hm, st, r1⟩)
         ·rw [if_neg (not_true hc)] at hr
          refine WO_fact (t := 56) (b := false) (decide (o2 > p1)) kr hc ?_
          refine WO_seg 7 [(63, .bool false)] kr kr ?_
          obtain rfl := Option.some.inj hr
          exact WO_env _ kr (K _ _ ⟨m2, rfl, hm, st, r1⟩)
       ·rw [if_neg (not_true hc)] at hr
        refine WO_fact (t := 44) (b := false) ((IntKind.wrap .i64 (o2 - p1)) == 9) kr hc ?_
        refine WO_seg 12 [(52, .bool false), (56, .bool (decide (o2 > p1)))] kr kr ?_
        rcases bcases (decide (o2 > p1)) with hc | hc
        ·rw [if_pos hc] at hr
         refine WO_fact (t := 56) (b := true) (decide (o2 > p1)) kr hc ?_
         refine WO_seg 2 [(57, .slice a1 (List.length p0) c1), (58, .int .i64 o2)] kr kr ?_
         replace ⟨x4, hx4, hr⟩ := bindS hr
         refine WO_one rfl (One_index (d := 59) (t := 23) (e := 5) (x := (.tmp 57)) (y := (.tmp 58)) cU8 kr rfl (ev (.slice a1 (List.length p0) c1)) (ev (.int .i64 o2)) kr r1 hx4 ?_)
         rintro b4 f4 cs4 rfl hq4
         refine WO_one rfl (One_load_row (d := 60) (t := 5) (x := (.tmp 59)) (.int .u8 (x4.toNat : Int)) kr rfl (ev (.pointer (some ⟨b4, f4, none⟩))) st hq4 kr ?_)
         refine WO_seg 3 [(63, .bool ((x4.toNat : Int) == 0))] kr kr ?_
         obtain rfl := Option.some.inj hr
         exact WO_env _ kr (K _ _ ⟨m2, rfl, hm, st, r1⟩)
        ·rw [if_neg (not_true hc)] at hr
         refine WO_fact (t := 56) (b := false) (decide (o2 > p1)) kr hc ?_
         refine WO_seg 7 [(63, .bool false)] kr kr ?_
         obtain rfl := Option.some.inj hr
         exact WO_env _ kr (K _ _ ⟨m2, rfl, hm, st, r1⟩)
   intro K0_u1
   clear hrKu1
   refine W_env _ kr (W_loop (fun k1 L' w' => ∃ (s1 : Int) (m3 : Mem), loopM (testgateref03_Uint_L1 N p0) k1 s1 = some out1 ∧ L' = [(0, .slice a1 (List.length p0) c1), (1, .int .i64 p1), (4, .int .u64 0), (7, .int .i64 s1)] ∧ m.le m3 ∧ St m3 (own) w' ∧ RepS cU8 m3 a1 c1 p0) N ⟨p1, m1, hr, rfl, hm, st, r1⟩ ?_)
   clear st hr
   rintro k1 _ w3 ⟨s1, m3, hL, rfl, hm, st, r1⟩
   rcases k1 with _ | k1
   ·exact loopM_zero hL
   ·obtain ⟨qu1, hr, hSu1, hBu1⟩ := loopM_succ hL
    clear hL
    unfold testgateref03_Uint_L1 at hr
    refine W_seq ?_
    refine W_sr ?_
    replace ⟨o3, hr, hrK⟩ := bindS hr
    refine WO_cut (j := 11) (fun L' w' => ∃ (m4 : Mem), L' = [(0, .slice a1 (List.length p0) c1), (1, .int .i64 p1), (4, .int .u64 0), (7, .int .i64 s1), (28, .bool o3)] ∧ m.le m4 ∧ St m4 (own) w' ∧ RepS cU8 m4 a1 c1 p0) ?_ ?_
    ·clear hr st
     have hr := hrK
     clear hrK
     rintro _ w4 ⟨m4, rfl, hm, st, r1⟩
     refine WO_et rfl (W_cond o3 kr ?_ ?_)
     ·intro hc
      rw [if_pos hc] at hr
      refine W_skip ?_
      refine X_then ?_
      refine W_block ?_
      refine W_region ?_
      refine WO_seg 3 [(7, .int .i64 (IntKind.wrap .i64 (s1 + 1)))] kr kr ?_
      refine WO_end rfl ?_
      refine X_block ?_
      obtain rfl := Option.some.inj hr
      have hL := hSu1 _ rfl
      exact X_env _ kr (X_round k1 (Nat.lt_succ_self _) ⟨IntKind.wrap .i64 (s1 + 1), m4, hL, rfl, hm, st, r1⟩)
     ·intro hc
      rw [if_neg (not_true hc)] at hr
      refine W_exit ?_
      refine X_then_exit ?_
      obtain rfl := Option.some.inj hr
      have ho := hBu1 _ rfl
      refine X_then_exit ?_
      exact X_env _ kr (K0_u1 _ _ ⟨s1, m4, ho, rfl, hm, st, r1⟩)
    ·intro K
     clear hrK
     refine WO_seg 5 [(22, .bool (decide (s1 < (List.length p0 : Int))))] kr kr ?_
     rcases bcases (decide (s1 < (List.length p0 : Int))) with hc | hc
     ·rw [if_pos hc] at hr
      refine WO_fact (t := 22) (b := true) (decide (s1 < (List.length p0 : Int))) kr hc ?_
      refine WO_seg 2 [(23, .slice a1 (List.length p0) c1), (24, .int .i64 s1)] kr kr ?_
      replace ⟨x1, hx1, hr⟩ := bindS hr
      refine WO_one rfl (One_index (d := 25) (t := 23) (e := 5) (x := (.tmp 23)) (y := (.tmp 24)) cU8 kr rfl (ev (.slice a1 (List.length p0) c1)) (ev (.int .i64 s1)) kr r1 hx1 ?_)
      rintro b1 f1 cs1 rfl hq1
      refine WO_one rfl (One_load_row (d := 26) (t := 5) (x := (.tmp 25)) (.int .u8 (x1.toNat : Int)) kr rfl (ev (.pointer (some ⟨b1, f1, none⟩))) st hq1 kr ?_)
      refine WO_seg 2 [(28, .bool (decide ((x1.toNat : Int) ≥ 128)))] kr kr ?_
      obtain rfl := Option.some.inj hr
      exact WO_env _ kr (K _ _ ⟨m3, rfl, hm, st, r1⟩)
     ·rw [if_neg (not_true hc)] at hr
      refine WO_fact (t := 22) (b := false) (decide (s1 < (List.length p0 : Int))) kr hc ?_
      refine WO_seg 6 [(28, .bool false)] kr kr ?_
      obtain rfl := Option.some.inj hr
      exact WO_env _ kr (K _ _ ⟨m3, rfl, hm, st, r1⟩)
 ·intro K
  clear hrK
  refine WO_seg 3 [(11, .bool (decide (p1 < 0)))] kr kr ?_
  rcases bcases (decide (p1 < 0)) with hc | hc
  ·rw [if_pos hc] at hr
   refine WO_fact (t := 11) (b := true) (decide (p1 < 0)) kr hc ?_
   refine WO_seg 5 [(16, .bool true)] kr kr ?_
   obtain rfl := Option.some.inj hr
   exact WO_env _ kr (K _ _ ⟨m, rfl, hm, st, r1⟩)
  ·rw [if_neg (not_true hc)] at hr
   refine WO_fact (t := 11) (b := false) (decide (p1 < 0)) kr hc ?_
   refine WO_seg 5 [(16, .bool (decide (p1 > (List.length p0 : Int))))] kr kr ?_
   obtain rfl := Option.some.inj hr
   exact WO_env _ kr (K _ _ ⟨m, rfl, hm, st, r1⟩)
def testgateref03_Next (N : Nat) (p0 : List UInt8) (p1 : Int) : Option ((Int × List UInt8) × Int × Int) :=
 (if (decide (p1 < 0)) = true then (some true) else (some (decide (p1 > (List.length p0 : Int)))) : Option (Bool)).bind fun o1 => if o1 = true then (some ((0, ([] : List (UInt8))), 0, 3)) else (if (p1 == (List.length p0 : Int)) = true then (some ((0, ([] : List (UInt8))), 0, 7)) else ((idx p0 p1).bind fun x1 => if ((x1.toNat : Int) != 247) = true then (some ((0, ([] : List (UInt8))), 0, 6)) else (if ((IntKind.wrap .i64 (p1 + 1)) == (List.length p0 : Int)) = true then (some ((0, ([] : List (UInt8))), 0, 7)) else ((idx p0 (IntKind.wrap .i64 (p1 + 1))).bind fun x2 => if ((x2.toNat : Int) == 0) = true then (some ((0, ([] : List (UInt8))), 0, 6)) else ((testgateref03_Uint N p0 (IntKind.wrap .i64 (p1 + 2))).bind fun y1 => if (y1.2.2 != 0) = true then (some ((0, ([] : List (UInt8))), 0, y1.2.2)) else (if (decide (y1.1 > 2097152)) = true then (some ((0, ([] : List (UInt8))), 0, 2)) else (if (decide ((IntKind.wrap .i64 ((IntKind.wrap .i64 y1.1) + 4)) > (IntKind.wrap .i64 ((List.length p0 : Int) - y1.2.1)))) = true then (some ((0, ([] : List (UInt8))), 0, 7)) else ((subS p0 (IntKind.wrap .i64 (p1 + 1)) (IntKind.wrap .i64 (y1.2.1 + (IntKind.wrap .i64 y1.1)))).bind fun l1 => (testgateref03_Checksum N l1).bind fun y2 => ((idx p0 (IntKind.wrap .i64 (y1.2.1 + (IntKind.wrap .i64 y1.1)))).bind fun x3 => if ((x3.toNat : Int) != (IntKind.wrap .u8 y2)) = true then (some true) else ((idx p0 (IntKind.wrap .i64 ((IntKind.wrap .i64 (y1.2.1 + (IntKind.wrap .i64 y1.1))) + 1))).bind fun x4 => if ((x4.toNat : Int) != (IntKind.wrap .u8 (Int.fdiv y2 (2 ^ 8)))) = true then (some true) else ((idx p0 (IntKind.wrap .i64 ((IntKind.wrap .i64 (y1.2.1 + (IntKind.wrap .i64 y1.1))) + 2))).bind fun x5 => if ((x5.toNat : Int) != (IntKind.wrap .u8 (Int.fdiv y2 (2 ^ 16)))) = true then (some true) else ((idx p0 (IntKind.wrap .i64 ((IntKind.wrap .i64 (y1.2.1 + (IntKind.wrap .i64 y1.1))) + 3))).bind fun x6 => some ((x6.toNat : Int) != (IntKind.wrap .u8 (Int.fdiv y2 (2 ^ 24))))))) : Option (Bool)).bind fun o2 => if o2 = true then (some ((0, ([] : List (UInt8))), 0, 8)) else ((idx p0 (IntKind.wrap .i64 (p1 + 1))).bind fun x7 => (subS p0 y1.2.1 (IntKind.wrap .i64 (y1.2.1 + (IntKind.wrap .i64 y1.1)))).bind fun l2 => (appendS 1 ([] : List (UInt8)) l2).bind fun l3 => some ((IntKind.wrap .i64 (x7.toNat : Int), l3), IntKind.wrap .i64 ((IntKind.wrap .i64 (y1.2.1 + (IntKind.wrap .i64 y1.1))) + 4), 0))))))))))
set_option maxHeartbeats 4000000 in
set_option maxRecDepth 100000 in
theorem testgateref03_Next_ok {N : Nat} {m : Mem} {own : List Piece} {w : World} {p0 : List UInt8} {p1 : Int} {a1 : Option Addr} {c1 : Nat} {r : (Int × List UInt8) × Int × Int} (st : St m (own) w) (r1 : RepS cU8 m a1 c1 p0) (hr : testgateref03_Next N p0 p1 = some r) : Calls Tryz.prog 64 #[.slice a1 (List.length p0) c1, .int .i64 p1] w fun e w' => ∃ (ra1 : Option Addr) (rc1 : Nat) (m' : Mem), e = .returned (.tuple #[.agg #[.int .i64 r.1.1, .slice ra1 (List.length r.1.2) rc1], .int .i64 r.2.1, .int .i64 r.2.2]) ∧ m.le m' ∧ St m' (.room ra1 (List.length r.1.2) rc1 5 1 :: own) w' ∧ RepS cU8 m' ra1 rc1 r.1.2 := by
 unfold testgateref03_Next at hr
 have hm := m.le_refl
 refine W_calls Tryz.func64 rfl Tryz.ntmps64 [(0, .slice a1 (List.length p0) c1), (1, .int .i64 p1)] kr rfl ?_
 refine W_sr (WO_one rfl (One_alloc (d := 4) (e := 37) (.agg #[.int .i64 0, .slice none 0 0]) kr rfl kr st ?_))
 clear st
 intro b1 w1 st
 refine WO_seg 2 [] kr kr ?_
 refine WO_et rfl (W_seq ?_)
 refine W_sr ?_
 replace ⟨o1, hr, hrK⟩ := bindS hr
 refine WO_cut (j := 8) (fun L' w' => ∃ (m1 : Mem), L' = [(0, .slice a1 (List.length p0) c1), (1, .int .i64 p1), (4, .pointer (some ⟨b1, 0, none⟩)), (18, .bool o1)] ∧ m.le m1 ∧ St m1 (.blk b1 (.cells #[.int .i64 0, .slice none (List.length ([] : List (UInt8))) 0] 37 (0, 0)) :: own) w' ∧ RepS cU8 m1 a1 c1 p0) ?_ ?_
 ·clear hr st
  have hr := hrK
  clear hrK
  rintro _ w2 ⟨m1, rfl, hm, st, r1⟩
  refine WO_et rfl (W_cond o1 kr ?_ ?_)
  ·intro hc
   rw [if_pos hc] at hr
   refine W_sr (WO_one rfl (One_load_own (d := 19) (t := 37) (x := (.tmp 4)) (.agg #[.int .i64 0, .slice none (List.length ([] : List (UInt8))) 0]) kr rfl (ev (.pointer (some ⟨b1, 0, none⟩))) st.head kr ?_))
   refine WO_one rfl (One_store (t := 37) (x := (.tmp 4)) (y := (.tmp 19)) (v := .agg #[.int .i64 0, .slice none (List.length ([] : List (UInt8))) 0]) (c' := #[.int .i64 0, .slice none (List.length ([] : List (UInt8))) 0]) kr (ev (.pointer (some ⟨b1, 0, none⟩))) (ev (.agg #[.int .i64 0, .slice none (List.length ([] : List (UInt8))) 0])) st kr kr ?_)
   clear st
   intro w3 st
   refine WO_seg 2 [(5, .int .i64 0), (6, .int .i64 3)] kr kr ?_
   refine WO_et rfl (W_ret ?_)
   refine X_then_ret ?_
   obtain rfl := Option.some.inj hr
   refine X_ret [.cell 4 37, .tmp 5, .tmp 6] [.agg #[.int .i64 0, .slice none (List.length ([] : List (UInt8))) 0], .int .i64 0, .int .i64 3] rfl (ResAll.cons (ResAt.blk (v := .agg #[.int .i64 0, .slice none (List.length ([] : List (UInt8))) 0]) (o := 0) kr st.head kr) (ResAll.cons (ResAt.tmp kr) (ResAll.cons (ResAt.tmp kr) ResAll.nil))) ?_
   have st := st.nilroom 5 1
   have st := st.front1
   have st := st.tail
   exact ⟨none, 0, m1, rfl, hm, st, (RepS.nil _ _)⟩
  ·intro hc
   rw [if_neg (not_true hc)] at hr
   refine W_skip ?_
   refine X_then ?_
   refine W_seq ?_
   refine W_sr (WO_seg 4 [(23, .bool (p1 == (List.length p0 : Int)))] kr kr ?_)
   refine WO_et rfl (W_cond (p1 == (List.length p0 : Int)) kr ?_ ?_)
   ·intro hc
    rw [if_pos hc] at hr
    refine W_sr (WO_one rfl (One_load_own (d := 24) (t := 37) (x := (.tmp 4)) (.agg #[.int .i64 0, .slice none (List.length ([] : List (UInt8))) 0]) kr rfl (ev (.pointer (some ⟨b1, 0, none⟩))) st.head kr ?_))
    refine WO_one rfl (One_store (t := 37) (x := (.tmp 4)) (y := (.tmp 24)) (v := .agg #[.int .i64 0, .slice none (List.length ([] : List (UInt8))) 0]) (c' := #[.int .i64 0, .slice none (List.length ([] : List (UInt8))) 0]) kr (ev (.pointer (some ⟨b1, 0, none⟩))) (ev (.agg #[.int .i64 0, .slice none (List.length ([] : List (UInt8))) 0])) st kr kr ?_)
    clear st
    intro w4 st
    refine WO_seg 2 [(5, .int .i64 0), (6, .int .i64 7)] kr kr ?_
    refine WO_et rfl (W_ret ?_)
    refine X_then_ret ?_
    obtain rfl := Option.some.inj hr
    refine X_ret [.cell 4 37, .tmp 5, .tmp 6] [.agg #[.int .i64 0, .slice none (List.length ([] : List (UInt8))) 0], .int .i64 0, .int .i64 7] rfl (ResAll.cons (ResAt.blk (v := .agg #[.int .i64 0, .slice none (List.length ([] : List (UInt8))) 0]) (o := 0) kr st.head kr) (ResAll.cons (ResAt.tmp kr) (ResAll.cons (ResAt.tmp kr) ResAll.nil))) ?_
    have st := st.nilroom 5 1
    have st := st.front1
    have st := st.tail
    exact ⟨none, 0, m1, rfl, hm, st, (RepS.nil _ _)⟩
   ·intro hc
    rw [if_neg (not_true hc)] at hr
    refine W_skip ?_
    refine X_then ?_
    refine W_seq ?_
    refine W_sr (WO_seg 2 [(25, .slice a1 (List.length p0) c1), (26, .int .i64 p1)] kr kr ?_)
    replace ⟨x1, hx1, hr⟩ := bindS hr
    refine WO_one rfl (One_index (d := 27) (t := 23) (e := 5) (x := (.tmp 25)) (y := (.tmp 26)) cU8 kr rfl (ev (.slice a1 (List.length p0) c1)) (ev (.int .i64 p1)) kr r1 hx1 ?_)
    rintro b2 f1 cs1 rfl hq1
    refine WO_one rfl (One_load_row (d := 28) (t := 5) (x := (.tmp 27)) (.int .u8 (x1.toNat : Int)) kr rfl (ev (.pointer (some ⟨b2, f1, none⟩))) st hq1 kr ?_)
    refine WO_seg 1 [(29, .bool ((x1.toNat : Int) != 247))] kr kr ?_
    refine WO_et rfl (W_cond ((x1.toNat : Int) != 247) kr ?_ ?_)
    ·intro hc
     rw [if_pos hc] at hr
     refine W_sr (WO_one rfl (One_load_own (d := 30) (t := 37) (x := (.tmp 4)) (.agg #[.int .i64 0, .slice none (List.length ([] : List (UInt8))) 0]) kr rfl (ev (.pointer (some ⟨b1, 0, none⟩))) st.head kr ?_))
     refine WO_one rfl (One_store (t := 37) (x := (.tmp 4)) (y := (.tmp 30)) (v := .agg #[.int .i64 0, .slice none (List.length ([] : List (UInt8))) 0]) (c' := #[.int .i64 0, .slice none (List.length ([] : List (UInt8))) 0]) kr (ev (.pointer (some ⟨b1, 0, none⟩))) (ev (.agg #[.int .i64 0, .slice none (List.length ([] : List (UInt8))) 0])) st kr kr ?_)
     clear st
     intro w5 st
     refine WO_seg 2 [(5, .int .i64 0), (6, .int .i64 6)] kr kr ?_
     refine WO_et rfl (W_ret ?_)
     refine X_then_ret ?_
     obtain rfl := Option.some.inj hr
     refine X_ret [.cell 4 37, .tmp 5, .tmp 6] [.agg #[.int .i64 0, .slice none (List.length ([] : List (UInt8))) 0], .int .i64 0, .int .i64 6] rfl (ResAll.cons (ResAt.blk (v := .agg #[.int .i64 0, .slice none (List.length ([] : List (UInt8))) 0]) (o := 0) kr st.head kr) (ResAll.cons (ResAt.tmp kr) (ResAll.cons (ResAt.tmp kr) ResAll.nil))) ?_
     have st := st.nilroom 5 1
     have st := st.front1
     have st := st.tail
     exact ⟨none, 0, m1, rfl, hm, st, (RepS.nil _ _)⟩
    ·intro hc
     rw [if_neg (not_true hc)] at hr
     refine W_skip ?_
     refine X_then ?_
     refine W_seq ?_
     refine W_sr (WO_seg 5 [(35, .bool ((IntKind.wrap .i64 (p1 + 1)) == (List.length p0 : Int)))] kr kr ?_)
     refine WO_et rfl (W_cond ((IntKind.wrap .i64 (p1 + 1)) == (List.length p0 : Int)) kr ?_ ?_)
     ·intro hc
      rw [if_pos hc] at hr
      refine W_sr (WO_one rfl (One_load_own (d := 36) (t := 37) (x := (.tmp 4)) (.agg #[.int .i64 0, .slice none (List.length ([] : List (UInt8))) 0]) kr rfl (ev (.pointer (some ⟨b1, 0, none⟩))) st.head kr ?_))
      refine WO_one rfl (One_store (t := 37) (x := (.tmp 4)) (y := (.tmp 36)) (v := .agg #[.int .i64 0, .slice none (List.length ([] : List (UInt8))) 0]) (c' := #[.int .i64 0, .slice none (List.length ([] : List (UInt8))) 0]) kr (ev (.pointer (some ⟨b1, 0, none⟩))) (ev (.agg #[.int .i64 0, .slice none (List.length ([] : List (UInt8))) 0])) st kr kr ?_)
      clear st
      intro w6 st
      refine WO_seg 2 [(5, .int .i64 0), (6, .int .i64 7)] kr kr ?_
      refine WO_et rfl (W_ret ?_)
      refine X_then_ret ?_
      obtain rfl := Option.some.inj hr
      refine X_ret [.cell 4 37, .tmp 5, .tmp 6] [.agg #[.int .i64 0, .slice none (List.length ([] : List (UInt8))) 0], .int .i64 0, .int .i64 7] rfl (ResAll.cons (ResAt.blk (v := .agg #[.int .i64 0, .slice none (List.length ([] : List (UInt8))) 0]) (o := 0) kr st.head kr) (ResAll.cons (ResAt.tmp kr) (ResAll.cons (ResAt.tmp kr) ResAll.nil))) ?_
      have st := st.nilroom 5 1
      have st := st.front1
      have st := st.tail
      exact ⟨none, 0, m1, rfl, hm, st, (RepS.nil _ _)⟩
     ·intro hc
      rw [if_neg (not_true hc)] at hr
      refine W_skip ?_
      refine X_then ?_
      refine W_seq ?_
      refine W_sr (WO_seg 3 [(37, .slice a1 (List.length p0) c1), (39, .int .i64 (IntKind.wrap .i64 (p1 + 1)))] kr kr ?_)
      replace ⟨x2, hx2, hr⟩ := bindS hr
      refine WO_one rfl (One_index (d := 40) (t := 23) (e := 5) (x := (.tmp 37)) (y := (.tmp 39)) cU8 kr rfl (ev (.slice a1 (List.length p0) c1)) (ev (.int .i64 (IntKind.wrap .i64 (p1 + 1)))) kr r1 hx2 ?_)
      rintro b3 f2 cs2 rfl hq2
      refine WO_one rfl (One_load_row (d := 41) (t := 5) (x := (.tmp 40)) (.int .u8 (x2.toNat : Int)) kr rfl (ev (.pointer (some ⟨b3, f2, none⟩))) st hq2 kr ?_)
      refine WO_seg 1 [(42, .bool ((x2.toNat : Int) == 0))] kr kr ?_
      refine WO_et rfl (W_cond ((x2.toNat : Int) == 0) kr ?_ ?_)
      ·intro hc
       rw [if_pos hc] at hr
       refine W_sr (WO_one rfl (One_load_own (d := 43) (t := 37) (x := (.tmp 4)) (.agg #[.int .i64 0, .slice none (List.length ([] : List (UInt8))) 0]) kr rfl (ev (.pointer (some ⟨b1, 0, none⟩))) st.head kr ?_))
       refine WO_one rfl (One_store (t := 37) (x := (.tmp 4)) (y := (.tmp 43)) (v := .agg #[.int .i64 0, .slice none (List.length ([] : List (UInt8))) 0]) (c' := #[.int .i64 0, .slice none (List.length ([] : List (UInt8))) 0]) kr (ev (.pointer (some ⟨b1, 0, none⟩))) (ev (.agg #[.int .i64 0, .slice none (List.length ([] : List (UInt8))) 0])) st kr kr ?_)
       clear st
       intro w7 st
       refine WO_seg 2 [(5, .int .i64 0), (6, .int .i64 6)] kr kr ?_
       refine WO_et rfl (W_ret ?_)
       refine X_then_ret ?_
       obtain rfl := Option.some.inj hr
       refine X_ret [.cell 4 37, .tmp 5, .tmp 6] [.agg #[.int .i64 0, .slice none (List.length ([] : List (UInt8))) 0], .int .i64 0, .int .i64 6] rfl (ResAll.cons (ResAt.blk (v := .agg #[.int .i64 0, .slice none (List.length ([] : List (UInt8))) 0]) (o := 0) kr st.head kr) (ResAll.cons (ResAt.tmp kr) (ResAll.cons (ResAt.tmp kr) ResAll.nil))) ?_
       have st := st.nilroom 5 1
       have st := st.front1
       have st := st.tail
       exact ⟨none, 0, m1, rfl, hm, st, (RepS.nil _ _)⟩
      ·intro hc
       rw [if_neg (not_true hc)] at hr
       refine W_skip ?_
       refine X_then ?_
       refine W_sr (WO_seg 3 [(45, .slice a1 (List.length p0) c1), (47, .int .i64 (IntKind.wrap .i64 (p1 + 2)))] kr kr ?_)
       replace ⟨y1, hx3, hr⟩ := bindS hr
       refine WO_one rfl (One_fn 48 47 #[.slice a1 (List.length p0) c1, .int .i64 (IntKind.wrap .i64 (p1 + 2))] kr rfl ?_)
       refine (testgateref03_Uint_ok st r1 hx3).mono ?_
       clear st
       rintro _ w8 ⟨m2, rfl, hle1, st⟩
       refine ⟨_, rfl, ?_⟩
       have hm := Mem.le_trans hm hle1
       have r1 := r1.mono hle1
       refine WO_seg 7 [(7, .int .u64 y1.1), (8, .int .i64 y1.2.1), (6, .int .i64 y1.2.2)] kr kr ?_
       refine WO_et rfl (W_seq ?_)
       refine W_sr (WO_seg 2 [(53, .bool (y1.2.2 != 0))] kr kr ?_)
       refine WO_et rfl (W_cond (y1.2.2 != 0) kr ?_ ?_)
       ·intro hc
        rw [if_pos hc] at hr
        refine W_sr (WO_one rfl (One_load_own (d := 54) (t := 37) (x := (.tmp 4)) (.agg #[.int .i64 0, .slice none (List.length ([] : List (UInt8))) 0]) kr rfl (ev (.pointer (some ⟨b1, 0, none⟩))) st.head kr ?_))
        refine WO_seg 1 [(55, .int .i64 y1.2.2)] kr kr ?_
        refine WO_one rfl (One_store (t := 37) (x := (.tmp 4)) (y := (.tmp 54)) (v := .agg #[.int .i64 0, .slice none (List.length ([] : List (UInt8))) 0]) (c' := #[.int .i64 0, .slice none (List.length ([] : List (UInt8))) 0]) kr (ev (.pointer (some ⟨b1, 0, none⟩))) (ev (.agg #[.int .i64 0, .slice none (List.length ([] : List (UInt8))) 0])) st kr kr ?_)
        clear st
        intro w9 st
        refine WO_seg 2 [(5, .int .i64 0), (6, .int .i64 y1.2.2)] kr kr ?_
        refine WO_et rfl (W_ret ?_)
        refine X_then_ret ?_
        obtain rfl := Option.some.inj hr
        refine X_ret [.cell 4 37, .tmp 5, .tmp 6] [.agg #[.int .i64 0, .slice none (List.length ([] : List (UInt8))) 0], .int .i64 0, .int .i64 y1.2.2] rfl (ResAll.cons (ResAt.blk (v := .agg #[.int .i64 0, .slice none (List.length ([] : List (UInt8))) 0]) (o := 0) kr st.head kr) (ResAll.cons (ResAt.tmp kr) (ResAll.cons (ResAt.tmp kr) ResAll.nil))) ?_
        have st := st.nilroom 5 1
        have st := st.front1
        have st := st.tail
        exact ⟨none, 0, m2, rfl, hm, st, (RepS.nil _ _)⟩
       ·intro hc
        rw [if_neg (not_true hc)] at hr
        refine W_skip ?_
        refine X_then ?_
        refine W_seq ?_
        refine W_sr (WO_seg 2 [(57, .bool (decide (y1.1 > 2097152)))] kr kr ?_)
        refine WO_et rfl (W_cond (decide (y1.1 > 2097152)) kr ?_ ?_)
        ·intro hc
         rw [if_pos hc] at hr
         refine W_sr (WO_one rfl (One_load_own (d := 58) (t := 37) (x := (.tmp 4)) (.agg #[.int .i64 0, .slice none (List.length ([] : List (UInt8))) 0]) kr rfl (ev (.pointer (some ⟨b1, 0, none⟩))) st.head kr ?_))
         refine WO_one rfl (One_store (t := 37) (x := (.tmp 4)) (y := (.tmp 58)) (v := .agg #[.int .i64 0, .slice none (List.length ([] : List (UInt8))) 0]) (c' := #[.int .i64 0, .slice none (List.length ([] : List (UInt8))) 0]) kr (ev (.pointer (some ⟨b1, 0, none⟩))) (ev (.agg #[.int .i64 0, .slice none (List.length ([] : List (UInt8))) 0])) st kr kr ?_)
         clear st
         intro w10 st
         refine WO_seg 2 [(5, .int .i64 0), (6, .int .i64 2)] kr kr ?_
         refine WO_et rfl (W_ret ?_)
         refine X_then_ret ?_
         obtain rfl := Option.some.inj hr
         refine X_ret [.cell 4 37, .tmp 5, .tmp 6] [.agg #[.int .i64 0, .slice none (List.length ([] : List (UInt8))) 0], .int .i64 0, .int .i64 2] rfl (ResAll.cons (ResAt.blk (v := .agg #[.int .i64 0, .slice none (List.length ([] : List (UInt8))) 0]) (o := 0) kr st.head kr) (ResAll.cons (ResAt.tmp kr) (ResAll.cons (ResAt.tmp kr) ResAll.nil))) ?_
         have st := st.nilroom 5 1
         have st := st.front1
         have st := st.tail
         exact ⟨none, 0, m2, rfl, hm, st, (RepS.nil _ _)⟩
        ·intro hc
         rw [if_neg (not_true hc)] at hr
         refine W_skip ?_
         refine X_then ?_
         refine W_seq ?_
         refine W_sr (WO_seg 8 [(66, .bool (decide ((IntKind.wrap .i64 ((IntKind.wrap .i64 y1.1) + 4)) > (IntKind.wrap .i64 ((List.length p0 : Int) - y1.2.1)))))] kr kr ?_)
         refine WO_et rfl (W_cond (decide ((IntKind.wrap .i64 ((IntKind.wrap .i64 y1.1) + 4)) > (IntKind.wrap .i64 ((List.length p0 : Int) - y1.2.1)))) kr ?_ ?_)
         ·intro hc
          rw [if_pos hc] at hr
          refine W_sr (WO_one rfl (One_load_own (d := 67) (t := 37) (x := (.tmp 4)) (.agg #[.int .i64 0, .slice none (List.length ([] : List (UInt8))) 0]) kr rfl (ev (.pointer (some ⟨b1, 0, none⟩))) st.head kr ?_))
          refine WO_one rfl (One_store (t := 37) (x := (.tmp 4)) (y := (.tmp 67)) (v := .agg #[.int .i64 0, .slice none (List.length ([] : List (UInt8))) 0]) (c' := #[.int .i64 0, .slice none (List.length ([] : List (UInt8))) 0]) kr (ev (.pointer (some ⟨b1, 0, none⟩))) (ev (.agg #[.int .i64 0, .slice none (List.length ([] : List (UInt8))) 0])) st kr kr ?_)
          clear st
          intro w11 st
          refine WO_seg 2 [(5, .int .i64 0), (6, .int .i64 7)] kr kr ?_
          refine WO_et rfl (W_ret ?_)
          refine X_then_ret ?_
          obtain rfl := Option.some.inj hr
          refine X_ret [.cell 4 37, .tmp 5, .tmp 6] [.agg #[.int .i64 0, .slice none (List.length ([] : List (UInt8))) 0], .int .i64 0, .int .i64 7] rfl (ResAll.cons (ResAt.blk (v := .agg #[.int .i64 0, .slice none (List.length ([] : List (UInt8))) 0]) (o := 0) kr st.head kr) (ResAll.cons (ResAt.tmp kr) (ResAll.cons (ResAt.tmp kr) ResAll.nil))) ?_
          have st := st.nilroom 5 1
          have st := st.front1
          have st := st.tail
          exact ⟨none, 0, m2, rfl, hm, st, (RepS.nil _ _)⟩
         ·intro hc
          rw [if_neg (not_true hc)] at hr
          refine W_skip ?_
          refine X_then ?_
          refine W_sr (WO_seg 5 [(9, .int .i64 (IntKind.wrap .i64 (y1.2.1 + (IntKind.wrap .i64 y1.1))))] kr kr ?_)
          refine WO_et rfl (W_sr ?_)
          refine WO_seg 4 [(72, .slice a1 (List.length p0) c1), (74, .int .i64 (IntKind.wrap .i64 (p1 + 1))), (75, .int .i64 (IntKind.wrap .i64 (y1.2.1 + (IntKind.wrap .i64 y1.1))))] kr kr ?_
          replace ⟨l1, hx4, hr⟩ := bindS hr
          refine WO_one rfl (One_slice (d := 76) (t := 23) (e := 5) (x := (.tmp 72)) (lo := (some (.tmp 74))) (hi := (some (.tmp 75))) cU8 kr rfl (ev (.slice a1 (List.length p0) c1)) kr r1 (.inr ⟨_, _, rfl, (ev (.int .i64 (IntKind.wrap .i64 (p1 + 1))))⟩) (.inr ⟨_, _, rfl, (ev (.int .i64 (IntKind.wrap .i64 (y1.2.1 + (IntKind.wrap .i64 y1.1)))))⟩) hx4 ?_)
          intro a2 c2 r2
          replace ⟨y2, hx5, hr⟩ := bindS hr
          refine WO_one rfl (One_fn 77 24 #[.slice a2 (List.length l1) c2] kr rfl ?_)
          refine (testgateref03_Checksum_ok st r2 hx5).mono ?_
          clear st
          rintro _ w12 ⟨m3, rfl, hle2, st⟩
          refine ⟨_, rfl, ?_⟩
          have hm := Mem.le_trans hm hle2
          have r1 := r1.mono hle2
          have r2 := r2.mono hle2
          refine WO_seg 1 [(10, .int .u32 y2)] kr kr ?_
          refine WO_et rfl (W_seq ?_)
          refine W_sr ?_
          replace ⟨o2, hr, hrK⟩ := bindS hr
          refine WO_cut (j := 40) (fun L' w' => ∃ (m4 : Mem), L' = [(0, .slice a1 (List.length p0) c1), (1, .int .i64 p1), (4, .pointer (some ⟨b1, 0, none⟩)), (8, .int .i64 y1.2.1), (9, .int .i64 (IntKind.wrap .i64 (y1.2.1 + (IntKind.wrap .i64 y1.1)))), (117, .bool o2)] ∧ m.le m4 ∧ St m4 (.blk b1 (.cells #[.int .i64 0, .slice none (List.length ([] : List (UInt8))) 0] 37 (0, 0)) :: own) w' ∧ RepS cU8 m4 a1 c1 p0) ?_ ?_
          ·clear hr st
           have hr := hrK
           clear hrK
           rintro _ w13 ⟨m4, rfl, hm, st, r1⟩
           refine WO_et rfl (W_cond o2 kr ?_ ?_)
           ·intro hc
            rw [if_pos hc] at hr
            refine W_sr (WO_one rfl (One_load_own (d := 118) (t := 37) (x := (.tmp 4)) (.agg #[.int .i64 0, .slice none (List.length ([] : List (UInt8))) 0]) kr rfl (ev (.pointer (some ⟨b1, 0, none⟩))) st.head kr ?_))
            refine WO_one rfl (One_store (t := 37) (x := (.tmp 4)) (y := (.tmp 118)) (v := .agg #[.int .i64 0, .slice none (List.length ([] : List (UInt8))) 0]) (c' := #[.int .i64 0, .slice none (List.length ([] : List (UInt8))) 0]) kr (ev (.pointer (some ⟨b1, 0, none⟩))) (ev (.agg #[.int .i64 0, .slice none (List.length ([] : List (UInt8))) 0])) st kr kr ?_)
            clear st
            intro w14 st
            refine WO_seg 2 [(5, .int .i64 0), (6, .int .i64 8)] kr kr ?_
            refine WO_et rfl (W_ret ?_)
            refine X_then_ret ?_
            obtain rfl := Option.some.inj hr
            refine X_ret [.cell 4 37, .tmp 5, .tmp 6] [.agg #[.int .i64 0, .slice none (List.length ([] : List (UInt8))) 0], .int .i64 0, .int .i64 8] rfl (ResAll.cons (ResAt.blk (v := .agg #[.int .i64 0, .slice none (List.length ([] : List (UInt8))) 0]) (o := 0) kr st.head kr) (ResAll.cons (ResAt.tmp kr) (ResAll.cons (ResAt.tmp kr) ResAll.nil))) ?_
            have st := st.nilroom 5 1
            have st := st.front1
            have st := st.tail
            exact ⟨none, 0, m4, rfl, hm, st, (RepS.nil _ _)⟩
           ·intro hc
            rw [if_neg (not_true hc)] at hr
            refine W_skip ?_
            refine X_then ?_
            refine W_seq ?_
            refine W_draw [(17, fun w' => Inv m4 w' ∧ True)] kr st ?_
            clear st
            intro w15 _ st
            have hmS1 := m4.le_refl
            refine ⟨⟨.inr ⟨Inv.anti st.inv hmS1, trivial⟩, trivial⟩, ?_⟩
            refine WA_pure 0 119 (.slice a1 (List.length p0) c1) kr rfl kr (.head _) (QP_then QP_body) ?_
            refine WA_pure 1 120 (.int .i64 p1) kr rfl kr (.head _) (QP_then QP_body) ?_
            refine WA_pure 2 121 (.int .i64 (IntKind.wrap .i64 (p1 + 1))) kr rfl kr (.head _) (QP_then QP_body) ?_
            replace ⟨x7, hx10, hr⟩ := bindS hr
            refine WA_index (t := 23) (e := 5) (x := (.tmp 119)) (y := (.tmp 121)) 3 122 cU8 kr rfl kr (.head _) (QP_then QP_body) (ev (.slice a1 (List.length p0) c1)) (ev (.int .i64 (IntKind.wrap .i64 (p1 + 1)))) kr r1 hx10 ?_
            rintro b8 f7 cs7 rfl hq7
            refine WA_load_row (t := 5) (x := (.tmp 122)) 4 123 (.int .u8 (x7.toNat : Int)) kr rfl kr (.head _) (QP_then QP_body) (fun _ h => h.1) (ev (.pointer (some ⟨b8, f7, none⟩))) hq7 kr ?_
            refine WA_pure 5 124 (.int .i64 (IntKind.wrap .i64 (x7.toNat : Int))) kr rfl kr (.head _) (QP_then QP_body) ?_
            refine WA_pure 6 125 (.slice a1 (List.length p0) c1) kr rfl kr (.head _) (QP_then QP_body) ?_
            refine WA_pure 7 126 (.int .i64 y1.2.1) kr rfl kr (.head _) (QP_then QP_body) ?_
            refine WA_pure 8 127 (.int .i64 (IntKind.wrap .i64 (y1.2.1 + (IntKind.wrap .i64 y1.1)))) kr rfl kr (.head _) (QP_then QP_body) ?_
            replace ⟨l2, hx11, hr⟩ := bindS hr
            refine WA_slice (t := 23) (e := 5) (x := (.tmp 125)) (lo := (some (.tmp 126))) (hi := (some (.tmp 127))) 9 128 cU8 kr rfl kr (.head _) (QP_then QP_body) (ev (.slice a1 (List.length p0) c1)) kr r1 (.inr ⟨_, _, rfl, (ev (.int .i64 y1.2.1))⟩) (.inr ⟨_, _, rfl, (ev (.int .i64 (IntKind.wrap .i64 (y1.2.1 + (IntKind.wrap .i64 y1.1)))))⟩) hx11 ?_
            intro a3 c3 r3
            refine WA_pure 12 131 (.int .i64 (IntKind.wrap .i64 (y1.2.1 + (IntKind.wrap .i64 y1.1)))) kr rfl kr (.head _) (QP_then QP_body) ?_
            refine WA_pure 13 132 (.int .i64 (IntKind.wrap .i64 ((IntKind.wrap .i64 (y1.2.1 + (IntKind.wrap .i64 y1.1))) + 4))) kr rfl kr (.head _) (QP_then QP_body) ?_
            have st := st.nilroom 5 1
            replace ⟨l3, hx12, hr⟩ := bindS hr
            refine WA_one 10 kr  (One_append (d := 129) (t := 23) (u := 23) (e := 5) (by_ := 1) (x := (.const (.slice none 0 0))) (y := (.tmp 128)) cU8 kr rfl (ev (.slice none (List.length ([] : List (UInt8))) 0)) (ev (.slice a3 (List.length l2) c3)) st kr (.inl kr) (RepS.nil _ _) r3.src hx12 ?_)
            clear st
            intro a4 c4 m5 w16 hle3 st r4
            have hm := Mem.le_trans hm hle3
            have r1 := r1.mono hle3
            have hq7 := hq7.mono hle3
            have r3 := r3.mono hle3
            have hmS1 := Mem.le_trans hmS1 hle3
            refine ⟨⟨.inr ⟨Inv.anti st.inv hmS1, trivial⟩, trivial⟩, ?_⟩
            refine WA_pure 11 130 (.agg #[.int .i64 (IntKind.wrap .i64 (x7.toNat : Int)), .slice a4 (List.length l3) c4]) kr rfl kr (.head _) (QP_then QP_body) ?_
            have st := st.front1
            refine WA_one 14 kr  (One_store (t := 37) (x := (.tmp 4)) (y := (.tmp 130)) (v := .agg #[.int .i64 (IntKind.wrap .i64 (x7.toNat : Int)), .slice a4 (List.length l3) c4]) (c' := #[.int .i64 (IntKind.wrap .i64 (x7.toNat : Int)), .slice a4 (List.length l3) c4]) kr (ev (.pointer (some ⟨b1, 0, none⟩))) (ev (.agg #[.int .i64 (IntKind.wrap .i64 (x7.toNat : Int)), .slice a4 (List.length l3) c4])) st kr kr ?_)
            clear st
            intro w17 st
            refine ⟨⟨.inr ⟨Inv.anti st.inv hmS1, trivial⟩, trivial⟩, ?_⟩
            refine WA_pure 15 5 (.int .i64 (IntKind.wrap .i64 ((IntKind.wrap .i64 (y1.2.1 + (IntKind.wrap .i64 y1.1))) + 4))) kr rfl kr (.head _) (QP_then QP_body) ?_
            refine WA_pure 16 6 (.int .i64 0) kr rfl kr (.head _) (QP_then QP_body) ?_
            refine WA_done kr ?_
            refine X_then ?_
            refine W_ret ?_
            obtain rfl := Option.some.inj hr
            refine X_ret [.cell 4 37, .tmp 5, .tmp 6] [.agg #[.int .i64 (IntKind.wrap .i64 (x7.toNat : Int)), .slice a4 (List.length l3) c4], .int .i64 (IntKind.wrap .i64 ((IntKind.wrap .i64 (y1.2.1 + (IntKind.wrap .i64 y1.1))) + 4)), .int .i64 0] rfl (ResAll.cons (ResAt.blk (v := .agg #[.int .i64 (IntKind.wrap .i64 (x7.toNat : Int)), .slice a4 (List.length l3) c4]) (o := 0) kr st.head kr) (ResAll.cons (ResAt.tmp kr) (ResAll.cons (ResAt.tmp kr) ResAll.nil))) ?_
            have st := st.tail
            exact ⟨a4, c4, m5, rfl, hm, st, r4⟩
          ·intro K
           clear hrK
           refine WO_seg 2 [(78, .slice a1 (List.length p0) c1), (79, .int .i64 (IntKind.wrap .i64 (y1.2.1 + (IntKind.wrap .i64 y1.1))))] kr kr ?_
           replace ⟨x3, hx6, hr⟩ := bindS hr
           refine WO_one rfl (One_index (d := 80) (t := 23) (e := 5) (x := (.tmp 78)) (y := (.tmp 79)) cU8 kr rfl (ev (.slice a1 (List.length p0) c1)) (ev (.int .i64 (IntKind.wrap .i64 (y1.2.1 + (IntKind.wrap .i64 y1.1))))) kr r1 hx6 ?_)
           rintro b4 f3 cs3 rfl hq3
           refine WO_one rfl (One_load_row (d := 81) (t := 5) (x := (.tmp 80)) (.int .u8 (x3.toNat : Int)) kr rfl (ev (.pointer (some ⟨b4, f3, none⟩))) st hq3 kr ?_)
           refine WO_seg 4 [(85, .bool ((x3.toNat : Int) != (IntKind.wrap .u8 y2)))] kr kr ?_
           rcases bcases ((x3.toNat : Int) != (IntKind.wrap .u8 y2)) with hc | hc
           ·rw [if_pos hc] at hr
            refine WO_fact (t := 85) (b := true) ((x3.toNat : Int) != (IntKind.wrap .u8 y2)) kr hc ?_
            refine WO_seg 32 [(117, .bool true)] kr kr ?_
            obtain rfl := Option.some.inj hr
            exact WO_env _ kr (K _ _ ⟨m3, rfl, hm, st, r1⟩)
           ·rw [if_neg (not_true hc)] at hr
            refine WO_fact (t := 85) (b := false) ((x3.toNat : Int) != (IntKind.wrap .u8 y2)) kr hc ?_
            refine WO_seg 3 [(86, .slice a1 (List.length p0) c1), (88, .int .i64 (IntKind.wrap .i64 ((IntKind.wrap .i64 (y1.2.1 + (IntKind.wrap .i64 y1.1))) + 1)))] kr kr ?_
            replace ⟨x4, hx7, hr⟩ := bindS hr
            refine WO_one rfl (One_index (d := 89) (t := 23) (e := 5) (x := (.tmp 86)) (y := (.tmp 88)) cU8 kr rfl (ev (.slice a1 (List.length p0) c1)) (ev (.int .i64 (IntKind.wrap .i64 ((IntKind.wrap .i64 (y1.2.1 + (IntKind.wrap .i64 y1.1))) + 1)))) kr r1 hx7 ?_)
            rintro b5 f4 cs4 rfl hq4
            refine WO_one rfl (One_load_row (d := 90) (t := 5) (x := (.tmp 89)) (.int .u8 (x4.toNat : Int)) kr rfl (ev (.pointer (some ⟨b5, f4, none⟩))) st hq4 kr ?_)
            refine WO_seg 6 [(96, .bool ((x4.toNat : Int) != (IntKind.wrap .u8 (Int.fdiv y2 (2 ^ 8)))))] kr kr ?_
            rcases bcases ((x4.toNat : Int) != (IntKind.wrap .u8 (Int.fdiv y2 (2 ^ 8)))) with hc | hc
            ·rw [if_pos hc] at hr
             refine WO_fact (t := 96) (b := true) ((x4.toNat : Int) != (IntKind.wrap .u8 (Int.fdiv y2 (2 ^ 8)))) kr hc ?_
             refine WO_seg 21 [(117, .bool true)] kr kr ?_
             obtain rfl := Option.some.inj hr
             exact WO_env _ kr (K _ _ ⟨m3, rfl, hm, st, r1⟩)
            ·rw [if_neg (not_true hc)] at hr
             refine WO_fact (t := 96) (b := false) ((x4.toNat : Int) != (IntKind.wrap .u8 (Int.fdiv y2 (2 ^ 8)))) kr hc ?_
             refine WO_seg 3 [(97, .slice a1 (List.length p0) c1), (99, .int .i64 (IntKind.wrap .i64 ((IntKind.wrap .i64 (y1.2.1 + (IntKind.wrap .i64 y1.1))) + 2)))] kr kr ?_
             replace ⟨x5, hx8, hr⟩ := bindS hr
             refine WO_one rfl (One_index (d := 100) (t := 23) (e := 5) (x := (.tmp 97)) (y := (.tmp 99)) cU8 kr rfl (ev (.slice a1 (List.length p0) c1)) (ev (.int .i64 (IntKind.wrap .i64 ((IntKind.wrap .i64 (y1.2.1 + (IntKind.wrap .i64 y1.1))) + 2)))) kr r1 hx8 ?_)
             rintro b6 f5 cs5 rfl hq5
             refine WO_one rfl (One_load_row (d := 101) (t := 5) (x := (.tmp 100)) (.int .u8 (x5.toNat : Int)) kr rfl (ev (.pointer (some ⟨b6, f5, none⟩))) st hq5 kr ?_)
             refine WO_seg 6 [(107, .bool ((x5.toNat : Int) != (IntKind.wrap .u8 (Int.fdiv y2 (2 ^ 16)))))] kr kr ?_
             rcases bcases ((x5.toNat : Int) != (IntKind.wrap .u8 (Int.fdiv y2 (2 ^ 16)))) with hc | hc
             ·rw [if_pos hc] at hr
              refine WO_fact (t := 107) (b := true) ((x5.toNat : Int) != (IntKind.wrap .u8 (Int.fdiv y2 (2 ^ 16)))) kr hc ?_
              refine WO_seg 10 [(117, .bool true)] kr kr ?_
              obtain rfl := Option.some.inj hr
              exact WO_env _ kr (K _ _ ⟨m3, rfl, hm, st, r1⟩)
             ·rw [if_neg (not_true hc)] at hr
              refine WO_fact (t := 107) (b := false) ((x5.toNat : Int) != (IntKind.wrap .u8 (Int.fdiv y2 (2 ^ 16)))) kr hc ?_
              refine WO_seg 3 [(108, .slice a1 (List.length p0) c1), (110, .int .i64 (IntKind.wrap .i64 ((IntKind.wrap .i64 (y1.2.1 + (IntKind.wrap .i64 y1.1))) + 3)))] kr kr ?_
              replace ⟨x6, hx9, hr⟩ := bindS hr
              refine WO_one rfl (One_index (d := 111) (t := 23) (e := 5) (x := (.tmp 108)) (y := (.tmp 110)) cU8 kr rfl (ev (.slice a1 (List.length p0) c1)) (ev (.int .i64 (IntKind.wrap .i64 ((IntKind.wrap .i64 (y1.2.1 + (IntKind.wrap .i64 y1.1))) + 3)))) kr r1 hx9 ?_)
              rintro b7 f6 cs6 rfl hq6
              refine WO_one rfl (One_load_row (d := 112) (t := 5) (x := (.tmp 111)) (.int .u8 (x6.toNat : Int)) kr rfl (ev (.pointer (some ⟨b7, f6, none⟩))) st hq6 kr ?_)
              refine WO_seg 5 [(117, .bool ((x6.toNat : Int) != (IntKind.wrap .u8 (Int.fdiv y2 (2 ^ 24)))))] kr kr ?_
              obtain rfl := Option.some.inj hr
              exact WO_env _ kr (K _ _ ⟨m3, rfl, hm, st, r1⟩)
 ·intro K
  clear hrK
  refine WO_seg 3 [(13, .bool (decide (p1 < 0)))] kr kr ?_
  rcases bcases (decide (p1 < 0)) with hc | hc
  ·rw [if_pos hc] at hr
   refine WO_fact (t := 13) (b := true) (decide (p1 < 0)) kr hc ?_
   refine WO_seg 5 [(18, .bool true)] kr kr ?_
   obtain rfl := Option.some.inj hr
   exact WO_env _ kr (K _ _ ⟨m, rfl, hm, st, r1⟩)
  ·rw [if_neg (not_true hc)] at hr
   refine WO_fact (t := 13) (b := false) (decide (p1 < 0)) kr hc ?_
   refine WO_seg 5 [(18, .bool (decide (p1 > (List.length p0 : Int))))] kr kr ?_
   obtain rfl := Option.some.inj hr
   exact WO_env _ kr (K _ _ ⟨m, rfl, hm, st, r1⟩)
def testgateref03_Frames_L1 (N : Nat) (p0 : List UInt8) (s1 : (List (Int × List UInt8)) × Int) : Option (((List (Int × List UInt8)) × Int) ⊕ (((List (Int × List UInt8)) × Int) ⊕ ((List (Int × List UInt8)) × Int × Int))) :=
 if (decide (s1.2 < (List.length p0 : Int))) = true then ((testgateref03_Next N p0 s1.2).bind fun y1 => if (y1.2.2 != 0) = true then (some (.inr (.inr ((s1.1, s1.2, y1.2.2))))) else ((appendS 32 s1.1 ([(y1.1.1, y1.1.2)])).bind fun l1 => some (.inl (l1, y1.2.1)))) else (some (.inr (.inl (s1.1, s1.2))))
def testgateref03_Frames (N : Nat) (p0 : List UInt8) : Option ((List (Int × List UInt8)) × Int × Int) :=
 (loopM (testgateref03_Frames_L1 N p0) N (([] : List (Int × List UInt8)), 0)).bind fun out1 => (match out1 with | .inl o1 => some (o1.1, o1.2, 0) | .inr (z) => some z)
set_option maxHeartbeats 4000000 in
set_option maxRecDepth 100000 in
theorem testgateref03_Frames_ok {N : Nat} {m : Mem} {own : List Piece} {w : World} {p0 : List UInt8} {a1 : Option Addr} {c1 : Nat} {r : (List (Int × List UInt8)) × Int × Int} (st : St m (own) w) (r1 : RepS cU8 m a1 c1 p0) (hr : testgateref03_Frames N p0 = some r) : Calls Tryz.prog 45 #[.slice a1 (List.length p0) c1] w fun e w' => ∃ (ra1 : Option Addr) (rc1 : Nat) (m' : Mem), e = .returned (.tuple #[.slice ra1 (List.length r.1) rc1, .int .i64 r.2.1, .int .i64 r.2.2]) ∧ m.le m' ∧ St m' (.room ra1 (List.length r.1) rc1 37 2 :: own) w' ∧ RepS (cPair (cInt .i64) (cSl cU8)) m' ra1 rc1 r.1 := by
 unfold testgateref03_Frames at hr
 have hm := m.le_refl
 refine W_calls Tryz.func45 rfl Tryz.ntmps45 [(0, .slice a1 (List.length p0) c1)] kr rfl ?_
 refine W_sr (WO_seg 3 [(2, .slice none (List.length ([] : List (Int × List UInt8))) 0), (3, .int .i64 0)] kr kr ?_)
 refine WO_et rfl (W_seq ?_)
 refine W_block ?_
 replace ⟨out1, hr, hrKu1⟩ := bindS hr
 refine W_cut (.exit 0) (fun L' w' => ∃ (o1 : (List (Int × List UInt8)) × Int) (a2 : Option Addr) (c2 : Nat) (m1 : Mem), (.inl o1) = out1 ∧ L' = [(2, .slice a2 (List.length o1.1) c2), (3, .int .i64 o1.2)] ∧ m.le m1 ∧ St m1 (.room a2 (List.length o1.1) c2 37 2 :: own) w' ∧ RepS (cPair (cInt .i64) (cSl cU8)) m1 a2 c2 o1.1) ?_ ?_
 ·clear hr st
  rintro _ w1 ⟨o1, a2, c2, m1, rfl, rfl, hm, st, r2⟩
  have hr := hrKu1
  clear hrKu1
  dsimp only at hr
  refine X_block_eq ?_
  refine X_then ?_
  refine W_sr (WO_seg 5 [(2, .slice a2 (List.length o1.1) c2), (3, .int .i64 o1.2), (4, .int .i64 0)] kr kr ?_)
  refine WO_et rfl (W_ret ?_)
  obtain rfl := Option.some.inj hr
  refine X_ret [.tmp 2, .tmp 3, .tmp 4] [.slice a2 (List.length o1.1) c2, .int .i64 o1.2, .int .i64 0] rfl (ResAll.cons (ResAt.tmp kr) (ResAll.cons (ResAt.tmp kr) (ResAll.cons (ResAt.tmp kr) ResAll.nil))) ?_
  exact ⟨a2, c2, m1, rfl, hm, st, r2⟩
 intro K0_u1
 have st := st.nilroom 37 2
 refine W_env _ kr (W_loop (fun k1 L' w' => ∃ (s1 : (List (Int × List UInt8)) × Int) (a3 : Option Addr) (c3 : Nat) (m2 : Mem), loopM (testgateref03_Frames_L1 N p0) k1 s1 = some out1 ∧ L' = [(0, .slice a1 (List.length p0) c1), (2, .slice a3 (List.length s1.1) c3), (3, .int .i64 s1.2)] ∧ m.le m2 ∧ St m2 (.room a3 (List.length s1.1) c3 37 2 :: own) w' ∧ RepS cU8 m2 a1 c1 p0 ∧ RepS (cPair (cInt .i64) (cSl cU8)) m2 a3 c3 s1.1) N ⟨(([] : List (Int × List UInt8)), 0), none, 0, m, hr, rfl, hm, st, r1, (RepS.nil _ _)⟩ ?_)
 clear st hr
 rintro k1 _ w2 ⟨s1, a3, c3, m2, hL, rfl, hm, st, r1, r3⟩
 rcases k1 with _ | k1
 ·exact loopM_zero hL
 ·obtain ⟨qu1, hr, hSu1, hBu1⟩ := loopM_succ hL
  clear hL
  unfold testgateref03_Frames_L1 at hr
  refine W_seq ?_
  refine W_sr (WO_seg 4 [(11, .bool (decide (s1.2 < (List.length p0 : Int))))] kr kr ?_)
  refine WO_et rfl (W_cond (decide (s1.2 < (List.length p0 : Int))) kr ?_ ?_)
  ·intro hc
   rw [if_pos hc] at hr
   refine W_skip ?_
   refine X_then ?_
   refine W_block ?_
   refine W_sr (WO_seg 2 [(13, .slice a1 (List.length p0) c1), (14, .int .i64 s1.2)] kr kr ?_)
   replace ⟨y1, hx1, hr⟩ := bindS hr
   refine WO_one rfl (One_fn 15 64 #[.slice a1 (List.length p0) c1, .int .i64 s1.2] kr rfl ?_)
   refine (testgateref03_Next_ok st r1 hx1).mono ?_
   clear st
   rintro _ w3 ⟨a4, c4, m3, rfl, hle1, st, r4⟩
   refine ⟨_, rfl, ?_⟩
   have hm := Mem.le_trans hm hle1
   have r1 := r1.mono hle1
   have r3 := r3.mono hle1
   refine WO_seg 4 [(16, .agg #[.int .i64 y1.1.1, .slice a4 (List.length y1.1.2) c4]), (17, .int .i64 y1.2.1), (18, .int .i64 y1.2.2)] kr kr ?_
   refine WO_one rfl (One_alloc (d := 5) (e := 37) (.agg #[.int .i64 0, .slice none 0 0]) kr rfl kr st ?_)
   clear st
   intro b1 w4 st
   refine WO_one rfl (One_store (t := 37) (x := (.tmp 5)) (y := (.tmp 16)) (v := .agg #[.int .i64 y1.1.1, .slice a4 (List.length y1.1.2) c4]) (c' := #[.int .i64 y1.1.1, .slice a4 (List.length y1.1.2) c4]) kr (ev (.pointer (some ⟨b1, 0, none⟩))) (ev (.agg #[.int .i64 y1.1.1, .slice a4 (List.length y1.1.2) c4])) st kr kr ?_)
   clear st
   intro w5 st
   refine WO_seg 2 [(6, .int .i64 y1.2.1), (7, .int .i64 y1.2.2)] kr kr ?_
   refine WO_et rfl (W_seq ?_)
   refine W_sr (WO_seg 2 [(20, .bool (y1.2.2 != 0))] kr kr ?_)
   refine WO_et rfl (W_cond (y1.2.2 != 0) kr ?_ ?_)
   ·intro hc
    rw [if_pos hc] at hr
    refine W_sr (WO_seg 6 [(2, .slice a3 (List.length s1.1) c3), (3, .int .i64 s1.2), (4, .int .i64 y1.2.2)] kr kr ?_)
    refine WO_et rfl (W_ret ?_)
    refine X_then_ret ?_
    refine X_block_ret ?_
    obtain rfl := Option.some.inj hr
    have ho := hBu1 _ rfl
    subst ho
    have hr := hrKu1
    dsimp only at hr
    refine X_then_ret ?_
    refine X_block_ret ?_
    refine X_then_ret ?_
    obtain rfl := Option.some.inj hr
    refine X_ret [.tmp 2, .tmp 3, .tmp 4] [.slice a3 (List.length s1.1) c3, .int .i64 s1.2, .int .i64 y1.2.2] rfl (ResAll.cons (ResAt.tmp kr) (ResAll.cons (ResAt.tmp kr) (ResAll.cons (ResAt.tmp kr) ResAll.nil))) ?_
    have st := st.tail
    have st := st.tail
    exact ⟨a3, c3, m3, rfl, hm, st, r3⟩
   ·intro hc
    rw [if_neg (not_true hc)] at hr
    refine W_skip ?_
    refine X_then ?_
    refine W_sr (WO_seg 1 [(24, .slice a3 (List.length s1.1) c3)] kr kr ?_)
    refine WO_one rfl (One_load_own (d := 25) (t := 37) (x := (.tmp 5)) (.agg #[.int .i64 y1.1.1, .slice a4 (List.length y1.1.2) c4]) kr rfl (ev (.pointer (some ⟨b1, 0, none⟩))) st.head kr ?_)
    refine WO_one rfl (One_buildSlice (d := 26) (t := 67) (e := 37) (len := 1) (parts := #[(0, (.tmp 25))]) (cPair (cInt .i64) (cSl cU8)) (xs := [(y1.1.1, y1.1.2)]) [.int .i64 y1.1.1, .slice a4 (List.length y1.1.2) c4] kr rfl (fun _ => buildCells_run kr _) rfl rfl st ⟨[.int .i64 y1.1.1, .slice a4 (List.length y1.1.2) c4], _, rfl, ⟨_, _, rfl, rfl, (cSl_mk r4)⟩, rfl⟩ ?_)
    clear st
    intro b2 m4 w6 hle2 st r5
    have hm := Mem.le_trans hm hle2
    have r1 := r1.mono hle2
    have r3 := r3.mono hle2
    have r4 := r4.mono hle2
    have st := st.front3
    replace ⟨l1, hx2, hr⟩ := bindS hr
    refine WO_one rfl (One_append (d := 27) (t := 67) (u := 67) (e := 37) (by_ := 32) (x := (.tmp 24)) (y := (.tmp 26)) (cPair (cInt .i64) (cSl cU8)) kr rfl (ev (.slice a3 (List.length s1.1) c3)) (ev (.slice (some ⟨b2, 0, none⟩) (List.length ([(y1.1.1, y1.1.2)])) 1)) st kr (.inl kr) r3 r5.src hx2 ?_)
    clear st
    intro a5 c5 m5 w7 hle3 st r6
    have hm := Mem.le_trans hm hle3
    have r1 := r1.mono hle3
    have r3 := r3.mono hle3
    have r4 := r4.mono hle3
    have r5 := r5.mono hle3
    refine WO_seg 1 [(2, .slice a5 (List.length l1) c5)] kr kr ?_
    refine WO_end rfl ?_
    have st := st.front1
    have st := st.tail
    refine X_then ?_
    refine W_region ?_
    refine WO_seg 2 [(3, .int .i64 y1.2.1)] kr kr ?_
    refine WO_end rfl ?_
    refine X_block ?_
    obtain rfl := Option.some.inj hr
    have hL := hSu1 _ rfl
    have st := st.front1
    have st := st.tail
    have st := st.front1
    have st := st.tail
    exact X_env _ kr (X_round k1 (Nat.lt_succ_self _) ⟨(l1, y1.2.1), a5, c5, m5, hL, rfl, hm, st, r1, r6⟩)
  ·intro hc
   rw [if_neg (not_true hc)] at hr
   refine W_exit ?_
   refine X_then_exit ?_
   obtain rfl := Option.some.inj hr
   have ho := hBu1 _ rfl
   refine X_then_exit ?_
   exact X_env _ kr (K0_u1 _ _ ⟨(s1.1, s1.2), a3, c3, m2, ho, rfl, hm, st, r3⟩)
def testgateref03_Text (N : Nat) (p0 : List UInt8) (p1 : Int) (p2 : Int) : Option (ByteArray × Int × Int) :=
 (testgateref03_Uint N p0 p1).bind fun y1 => if (y1.2.2 != 0) = true then (some ((⟨#[]⟩ : ByteArray), 0, y1.2.2)) else ((if (decide (p2 < 0)) = true then (some true) else (some (decide (y1.1 > (IntKind.wrap .u64 p2)))) : Option (Bool)).bind fun o1 => if o1 = true then (some ((⟨#[]⟩ : ByteArray), 0, 2)) else (if (decide (y1.1 > (IntKind.wrap .u64 (IntKind.wrap .i64 ((List.length p0 : Int) - y1.2.1))))) = true then (some ((⟨#[]⟩ : ByteArray), 0, 7)) else ((subS p0 y1.2.1 (IntKind.wrap .i64 (y1.2.1 + (IntKind.wrap .i64 y1.1)))).bind fun l1 => some (strOf l1, IntKind.wrap .i64 (y1.2.1 + (IntKind.wrap .i64 y1.1)), 0))))
set_option maxHeartbeats 4000000 in
set_option maxRecDepth 100000 in
theorem testgateref03_Text_ok {N : Nat} {m : Mem} {own : List Piece} {w : World} {p0 : List UInt8} {p1 : Int} {p2 : Int} {a1 : Option Addr} {c1 : Nat} {r : ByteArray × Int × Int} (st : St m (own) w) (r1 : RepS cU8 m a1 c1 p0) (hr : testgateref03_Text N p0 p1 p2 = some r) : Calls Tryz.prog 65 #[.slice a1 (List.length p0) c1, .int .i64 p1, .int .i64 p2] w fun e w' => ∃ (m' : Mem), e = .returned (.tuple #[.string r.1, .int .i64 r.2.1, .int .i64 r.2.2]) ∧ m.le m' ∧ St m' (own) w' := by
 unfold testgateref03_Text at hr
 have hm := m.le_refl
 refine W_calls Tryz.func65 rfl Tryz.ntmps65 [(0, .slice a1 (List.length p0) c1), (1, .int .i64 p1), (2, .int .i64 p2)] kr rfl ?_
 refine W_sr (WO_seg 3 [] kr kr ?_)
 refine WO_et rfl (W_sr ?_)
 refine WO_seg 2 [(11, .slice a1 (List.length p0) c1), (12, .int .i64 p1)] kr kr ?_
 replace ⟨y1, hx1, hr⟩ := bindS hr
 refine WO_one rfl (One_fn 13 47 #[.slice a1 (List.length p0) c1, .int .i64 p1] kr rfl ?_)
 refine (testgateref03_Uint_ok st r1 hx1).mono ?_
 clear st
 rintro _ w1 ⟨m1, rfl, hle1, st⟩
 refine ⟨_, rfl, ?_⟩
 have hm := Mem.le_trans hm hle1
 have r1 := r1.mono hle1
 refine WO_seg 7 [(9, .int .u64 y1.1), (7, .int .i64 y1.2.1), (8, .int .i64 y1.2.2)] kr kr ?_
 refine WO_et rfl (W_seq ?_)
 refine W_sr (WO_seg 2 [(18, .bool (y1.2.2 != 0))] kr kr ?_)
 refine WO_et rfl (W_cond (y1.2.2 != 0) kr ?_ ?_)
 ·intro hc
  rw [if_pos hc] at hr
  refine W_sr (WO_seg 4 [(6, .string (⟨#[]⟩ : ByteArray)), (7, .int .i64 0), (8, .int .i64 y1.2.2)] kr kr ?_)
  refine WO_et rfl (W_ret ?_)
  refine X_then_ret ?_
  obtain rfl := Option.some.inj hr
  refine X_ret [.tmp 6, .tmp 7, .tmp 8] [.string (⟨#[]⟩ : ByteArray), .int .i64 0, .int .i64 y1.2.2] rfl (ResAll.cons (ResAt.tmp kr) (ResAll.cons (ResAt.tmp kr) (ResAll.cons (ResAt.tmp kr) ResAll.nil))) ?_
  exact ⟨m1, rfl, hm, st⟩
 ·intro hc
  rw [if_neg (not_true hc)] at hr
  refine W_skip ?_
  refine X_then ?_
  refine W_seq ?_
  refine W_sr ?_
  replace ⟨o1, hr, hrK⟩ := bindS hr
  refine WO_cut (j := 8) (fun L' w' => ∃ (m2 : Mem), L' = [(0, .slice a1 (List.length p0) c1), (7, .int .i64 y1.2.1), (9, .int .u64 y1.1), (27, .bool o1)] ∧ m.le m2 ∧ St m2 (own) w' ∧ RepS cU8 m2 a1 c1 p0) ?_ ?_
  ·clear hr st
   have hr := hrK
   clear hrK
   rintro _ w2 ⟨m2, rfl, hm, st, r1⟩
   refine WO_et rfl (W_cond o1 kr ?_ ?_)
   ·intro hc
    rw [if_pos hc] at hr
    refine W_sr (WO_seg 3 [(6, .string (⟨#[]⟩ : ByteArray)), (7, .int .i64 0), (8, .int .i64 2)] kr kr ?_)
    refine WO_et rfl (W_ret ?_)
    refine X_then_ret ?_
    obtain rfl := Option.some.inj hr
    refine X_ret [.tmp 6, .tmp 7, .tmp 8] [.string (⟨#[]⟩ : ByteArray), .int .i64 0, .int .i64 2] rfl (ResAll.cons (ResAt.tmp kr) (ResAll.cons (ResAt.tmp kr) (ResAll.cons (ResAt.tmp kr) ResAll.nil))) ?_
    exact ⟨m2, rfl, hm, st⟩
   ·intro hc
    rw [if_neg (not_true hc)] at hr
    refine W_skip ?_
    refine X_then ?_
    refine W_seq ?_
    refine W_sr (WO_seg 7 [(34, .bool (decide (y1.1 > (IntKind.wrap .u64 (IntKind.wrap .i64 ((List.length p0 : Int) - y1.2.1))))))] kr kr ?_)
    refine WO_et rfl (W_cond (decide (y1.1 > (IntKind.wrap .u64 (IntKind.wrap .i64 ((List.length p0 : Int) - y1.2.1))))) kr ?_ ?_)
    ·intro hc
     rw [if_pos hc] at hr
     refine W_sr (WO_seg 3 [(6, .string (⟨#[]⟩ : ByteArray)), (7, .int .i64 0), (8, .int .i64 7)] kr kr ?_)
     refine WO_et rfl (W_ret ?_)
     refine X_then_ret ?_
     obtain rfl := Option.some.inj hr
     refine X_ret [.tmp 6, .tmp 7, .tmp 8] [.string (⟨#[]⟩ : ByteArray), .int .i64 0, .int .i64 7] rfl (ResAll.cons (ResAt.tmp kr) (ResAll.cons (ResAt.tmp kr) (ResAll.cons (ResAt.tmp kr) ResAll.nil))) ?_
     exact ⟨m2, rfl, hm, st⟩
    ·intro hc
     rw [if_neg (not_true hc)] at hr
     refine W_skip ?_
     refine X_then ?_
     refine W_sr (WO_seg 6 [(35, .slice a1 (List.length p0) c1), (36, .int .i64 y1.2.1), (40, .int .i64 (IntKind.wrap .i64 (y1.2.1 + (IntKind.wrap .i64 y1.1))))] kr kr ?_)
     replace ⟨l1, hx2, hr⟩ := bindS hr
     refine WO_one rfl (One_slice (d := 41) (t := 23) (e := 5) (x := (.tmp 35)) (lo := (some (.tmp 36))) (hi := (some (.tmp 40))) cU8 kr rfl (ev (.slice a1 (List.length p0) c1)) kr r1 (.inr ⟨_, _, rfl, (ev (.int .i64 y1.2.1))⟩) (.inr ⟨_, _, rfl, (ev (.int .i64 (IntKind.wrap .i64 (y1.2.1 + (IntKind.wrap .i64 y1.1)))))⟩) hx2 ?_)
     intro a2 c2 r2
     refine WO_one rfl (One_bytesStr (d := 42) (t1 := 23) (t2 := 9) (e := 5) (x := (.tmp 41)) kr rfl (ev (.slice a2 (List.length l1) c2)) kr kr st r2 ?_)
     refine WO_seg 7 [(6, .string (strOf l1)), (7, .int .i64 (IntKind.wrap .i64 (y1.2.1 + (IntKind.wrap .i64 y1.1)))), (8, .int .i64 0)] kr kr ?_
     refine WO_et rfl (W_ret ?_)
     obtain rfl := Option.some.inj hr
     refine X_ret [.tmp 6, .tmp 7, .tmp 8] [.string (strOf l1), .int .i64 (IntKind.wrap .i64 (y1.2.1 + (IntKind.wrap .i64 y1.1))), .int .i64 0] rfl (ResAll.cons (ResAt.tmp kr) (ResAll.cons (ResAt.tmp kr) (ResAll.cons (ResAt.tmp kr) ResAll.nil))) ?_
     exact ⟨m2, rfl, hm, st⟩
  ·intro K
   clear hrK
   refine WO_seg 3 [(22, .bool (decide (p2 < 0)))] kr kr ?_
   rcases bcases (decide (p2 < 0)) with hc | hc
   ·rw [if_pos hc] at hr
    refine WO_fact (t := 22) (b := true) (decide (p2 < 0)) kr hc ?_
    refine WO_seg 5 [(27, .bool true)] kr kr ?_
    obtain rfl := Option.some.inj hr
    exact WO_env _ kr (K _ _ ⟨m1, rfl, hm, st, r1⟩)
   ·rw [if_neg (not_true hc)] at hr
    refine WO_fact (t := 22) (b := false) (decide (p2 < 0)) kr hc ?_
    refine WO_seg 5 [(27, .bool (decide (y1.1 > (IntKind.wrap .u64 p2))))] kr kr ?_
    obtain rfl := Option.some.inj hr
    exact WO_env _ kr (K _ _ ⟨m1, rfl, hm, st, r1⟩)
def testgateref07_file (N : Nat) (p0 : List UInt8) : Option ((ByteArray × ByteArray) × Bool) :=
 (testgateref03_Text N p0 0 (List.length p0 : Int)).bind fun y1 => if (y1.2.2 != 0) = true then (some (((⟨#[]⟩ : ByteArray), (⟨#[]⟩ : ByteArray)), false)) else ((testgateref03_Text N p0 y1.2.1 (List.length p0 : Int)).bind fun y2 => (if (y2.2.2 == 0) = true then (some (y2.2.1 == (List.length p0 : Int))) else (some false) : Option (Bool)).bind fun o1 => some ((y1.1, y2.1), o1))
set_option maxHeartbeats 4000000 in
set_option maxRecDepth 100000 in
theorem testgateref07_file_ok {N : Nat} {m : Mem} {own : List Piece} {w : World} {p0 : List UInt8} {a1 : Option Addr} {c1 : Nat} {r : (ByteArray × ByteArray) × Bool} (st : St m (own) w) (r1 : RepS cU8 m a1 c1 p0) (hr : testgateref07_file N p0 = some r) : Calls Tryz.prog 46 #[.slice a1 (List.length p0) c1] w fun e w' => ∃ (m' : Mem), e = .returned (.tuple #[.agg #[.string r.1.1, .string r.1.2], .bool r.2]) ∧ m.le m' ∧ St m' (own) w' := by
 unfold testgateref07_file at hr
 have hm := m.le_refl
 refine W_calls Tryz.func46 rfl Tryz.ntmps46 [(0, .slice a1 (List.length p0) c1)] kr rfl ?_
 refine W_sr (WO_one rfl (One_alloc (d := 2) (e := 46) (.agg #[.string (⟨#[]⟩ : ByteArray), .string (⟨#[]⟩ : ByteArray)]) kr rfl kr st ?_))
 clear st
 intro b1 w1 st
 refine WO_seg 1 [] kr kr ?_
 refine WO_et rfl (W_sr ?_)
 refine WO_seg 3 [(9, .slice a1 (List.length p0) c1), (11, .int .i64 (List.length p0 : Int))] kr kr ?_
 replace ⟨y1, hx1, hr⟩ := bindS hr
 refine WO_one rfl (One_fn 12 65 #[.slice a1 (List.length p0) c1, .int .i64 0, .int .i64 (List.length p0 : Int)] kr rfl ?_)
 refine (testgateref03_Text_ok st r1 hx1).mono ?_
 clear st
 rintro _ w2 ⟨m1, rfl, hle1, st⟩
 refine ⟨_, rfl, ?_⟩
 have hm := Mem.le_trans hm hle1
 have r1 := r1.mono hle1
 refine WO_seg 7 [(4, .string y1.1), (5, .int .i64 y1.2.1), (6, .int .i64 y1.2.2)] kr kr ?_
 refine WO_et rfl (W_seq ?_)
 refine W_sr (WO_seg 2 [(17, .bool (y1.2.2 != 0))] kr kr ?_)
 refine WO_et rfl (W_cond (y1.2.2 != 0) kr ?_ ?_)
 ·intro hc
  rw [if_pos hc] at hr
  refine W_sr (WO_seg 1 [(18, .agg #[.string (⟨#[]⟩ : ByteArray), .string (⟨#[]⟩ : ByteArray)])] kr kr ?_)
  refine WO_one rfl (One_store (t := 46) (x := (.tmp 2)) (y := (.tmp 18)) (v := .agg #[.string (⟨#[]⟩ : ByteArray), .string (⟨#[]⟩ : ByteArray)]) (c' := #[.string (⟨#[]⟩ : ByteArray), .string (⟨#[]⟩ : ByteArray)]) kr (ev (.pointer (some ⟨b1, 0, none⟩))) (ev (.agg #[.string (⟨#[]⟩ : ByteArray), .string (⟨#[]⟩ : ByteArray)])) st kr kr ?_)
  clear st
  intro w3 st
  refine WO_seg 1 [(3, .bool false)] kr kr ?_
  refine WO_et rfl (W_ret ?_)
  refine X_then_ret ?_
  obtain rfl := Option.some.inj hr
  refine X_ret [.cell 2 46, .tmp 3] [.agg #[.string (⟨#[]⟩ : ByteArray), .string (⟨#[]⟩ : ByteArray)], .bool false] rfl (ResAll.cons (ResAt.blk (v := .agg #[.string (⟨#[]⟩ : ByteArray), .string (⟨#[]⟩ : ByteArray)]) (o := 0) kr st.head kr) (ResAll.cons (ResAt.tmp kr) ResAll.nil)) ?_
  have st := st.tail
  exact ⟨m1, rfl, hm, st⟩
 ·intro hc
  rw [if_neg (not_true hc)] at hr
  refine W_skip ?_
  refine X_then ?_
  refine W_sr (WO_seg 4 [(20, .slice a1 (List.length p0) c1), (21, .int .i64 y1.2.1), (23, .int .i64 (List.length p0 : Int))] kr kr ?_)
  replace ⟨y2, hx2, hr⟩ := bindS hr
  refine WO_one rfl (One_fn 24 65 #[.slice a1 (List.length p0) c1, .int .i64 y1.2.1, .int .i64 (List.length p0 : Int)] kr rfl ?_)
  refine (testgateref03_Text_ok st r1 hx2).mono ?_
  clear st
  rintro _ w4 ⟨m2, rfl, hle2, st⟩
  refine ⟨_, rfl, ?_⟩
  have hm := Mem.le_trans hm hle2
  have r1 := r1.mono hle2
  refine WO_seg 7 [(7, .string y2.1), (5, .int .i64 y2.2.1), (6, .int .i64 y2.2.2)] kr kr ?_
  refine WO_et rfl (W_sr ?_)
  replace ⟨o1, hr, hrK⟩ := bindS hr
  refine WO_cut (j := 13) (fun L' w' => ∃ (m3 : Mem), L' = [(2, .pointer (some ⟨b1, 0, none⟩)), (3, .bool o1)] ∧ m.le m3 ∧ St m3 (.blk b1 (.cells #[.string y1.1, .string y2.1] 46 (0, 0)) :: own) w') ?_ ?_
  ·clear hr st
   have hr := hrK
   clear hrK
   rintro _ w5 ⟨m3, rfl, hm, st⟩
   refine WO_et rfl (W_ret ?_)
   obtain rfl := Option.some.inj hr
   refine X_ret [.cell 2 46, .tmp 3] [.agg #[.string y1.1, .string y2.1], .bool o1] rfl (ResAll.cons (ResAt.blk (v := .agg #[.string y1.1, .string y2.1]) (o := 0) kr st.head kr) (ResAll.cons (ResAt.tmp kr) ResAll.nil)) ?_
   have st := st.tail
   exact ⟨m3, rfl, hm, st⟩
  ·intro K
   clear hrK
   refine WO_seg 6 [(30, .agg #[.string y1.1, .string y2.1]), (33, .bool (y2.2.2 == 0))] kr kr ?_
   rcases bcases (y2.2.2 == 0) with hc | hc
   ·rw [if_pos hc] at hr
    refine WO_fact (t := 33) (b := true) (y2.2.2 == 0) kr hc ?_
    refine WO_seg 5 [(38, .bool (y2.2.1 == (List.length p0 : Int)))] kr kr ?_
    refine WO_one rfl (One_store (t := 46) (x := (.tmp 2)) (y := (.tmp 30)) (v := .agg #[.string y1.1, .string y2.1]) (c' := #[.string y1.1, .string y2.1]) kr (ev (.pointer (some ⟨b1, 0, none⟩))) (ev (.agg #[.string y1.1, .string y2.1])) st kr kr ?_)
    clear st
    intro w6 st
    refine WO_seg 1 [(3, .bool (y2.2.1 == (List.length p0 : Int)))] kr kr ?_
    obtain rfl := Option.some.inj hr
    exact WO_env _ kr (K _ _ ⟨m2, rfl, hm, st⟩)
   ·rw [if_neg (not_true hc)] at hr
    refine WO_fact (t := 33) (b := false) (y2.2.2 == 0) kr hc ?_
    refine WO_seg 5 [(38, .bool false)] kr kr ?_
    refine WO_one rfl (One_store (t := 46) (x := (.tmp 2)) (y := (.tmp 30)) (v := .agg #[.string y1.1, .string y2.1]) (c' := #[.string y1.1, .string y2.1]) kr (ev (.pointer (some ⟨b1, 0, none⟩))) (ev (.agg #[.string y1.1, .string y2.1])) st kr kr ?_)
    clear st
    intro w7 st
    refine WO_seg 1 [(3, .bool false)] kr kr ?_
    obtain rfl := Option.some.inj hr
    exact WO_env _ kr (K _ _ ⟨m2, rfl, hm, st⟩)
def testgateref07_Decode_L1 (N : Nat) (l1 : List (Int × List UInt8)) (s1 : Int × (List (ByteArray × ByteArray))) : Option ((Int × (List (ByteArray × ByteArray))) ⊕ (((List (ByteArray × ByteArray))) ⊕ (((List (ByteArray × ByteArray))) × Int))) :=
 if (decide (s1.1 < (List.length l1 : Int))) = true then ((idx l1 s1.1).bind fun x2 => (testgateref07_file N x2.2).bind fun y2 => (if (x2.1 != 1) = true then (some true) else (some (!y2.2)) : Option (Bool)).bind fun o3 => if o3 = true then (some (.inr (.inr ((([] : List (ByteArray × ByteArray)), 6))))) else ((appendS 32 s1.2 ([(y2.1.1, y2.1.2)])).bind fun l2 => some (.inl (IntKind.wrap .i64 (s1.1 + 1), l2)))) else (some (.inr (.inl s1.2)))
def testgateref07_Decode (N : Nat) (p0 : List UInt8) : Option (((List (ByteArray × ByteArray))) × Int) :=
 (testgateref03_Frames N p0).bind fun y1 => if (y1.2.2 != 0) = true then (some (([] : List (ByteArray × ByteArray)), y1.2.2)) else ((if ((List.length y1.1 : Int) == 0) = true then (some true) else ((idx y1.1 (IntKind.wrap .i64 ((List.length y1.1 : Int) - 1))).bind fun x1 => some (x1.1 != 2)) : Option (Bool)).bind fun o1 => if o1 = true then (some (([] : List (ByteArray × ByteArray)), 7)) else ((subS y1.1 0 (IntKind.wrap .i64 ((List.length y1.1 : Int) - 1))).bind fun l1 => (loopM (testgateref07_Decode_L1 N l1) N (0, ([] : List (ByteArray × ByteArray)))).bind fun out1 => (match out1 with | .inl o2 => (idx y1.1 (IntKind.wrap .i64 ((List.length y1.1 : Int) - 1))).bind fun x3 => (testgateref03_Uint N x3.2 0).bind fun y3 => (if (y3.2.2 != 0) = true then (some true) else (if (y3.2.1 != (List.length x3.2 : Int)) = true then (some true) else (some (y3.1 != (IntKind.wrap .u64 (List.length o2 : Int))))) : Option (Bool)).bind fun o4 => if o4 = true then (some (([] : List (ByteArray × ByteArray)), 6)) else ((testgateref07_Check N o2).bind fun y4 => if (y4 != 0) = true then (some (([] : List (ByteArray × ByteArray)), y4)) else (some (o2, 0))) | .inr (z) => some z)))
set_option maxHeartbeats 4000000 in
set_option maxRecDepth 100000 in
theorem testgateref07_Decode_ok {N : Nat} {m : Mem} {own : List Piece} {w : World} {p0 : List UInt8} {a1 : Option Addr} {c1 : Nat} {r : ((List (ByteArray × ByteArray))) × Int} (st : St m (own) w) (r1 : RepS cU8 m a1 c1 p0) (hr : testgateref07_Decode N p0 = some r) : Calls Tryz.prog 26 #[.slice a1 (List.length p0) c1] w fun e w' => ∃ (ra1 : Option Addr) (rc1 : Nat) (m' : Mem), e = .returned (.tuple #[.agg #[.slice ra1 (List.length r.1) rc1], .int .i64 r.2]) ∧ m.le m' ∧ St m' (.room ra1 (List.length r.1) rc1 46 2 :: own) w' ∧ RepS (cPair cStr cStr) m' ra1 rc1 r.1 := by
 unfold testgateref07_Decode at hr
 have hm := m.le_refl
 refine W_calls Tryz.func26 rfl Tryz.ntmps26 [(0, .slice a1 (List.length p0) c1)] kr rfl ?_
 refine W_sr (WO_one rfl (One_alloc (d := 2) (e := 29) (.agg #[.slice none 0 0]) kr rfl kr st ?_))
 clear st
 intro b1 w1 st
 refine WO_seg 1 [] kr kr ?_
 refine WO_et rfl (W_sr ?_)
 refine WO_seg 1 [(17, .slice a1 (List.length p0) c1)] kr kr ?_
 replace ⟨y1, hx1, hr⟩ := bindS hr
 refine WO_one rfl (One_fn 18 45 #[.slice a1 (List.length p0) c1] kr rfl ?_)
 refine (testgateref03_Frames_ok st r1 hx1).mono ?_
 clear st
 rintro _ w2 ⟨a2, c2, m1, rfl, hle1, st, r2⟩
 refine ⟨_, rfl, ?_⟩
 have hm := Mem.le_trans hm hle1
 have r1 := r1.mono hle1
 refine WO_seg 7 [(4, .slice a2 (List.length y1.1) c2), (6, .int .i64 y1.2.2)] kr kr ?_
 refine WO_et rfl (W_seq ?_)
 refine W_sr (WO_seg 2 [(23, .bool (y1.2.2 != 0))] kr kr ?_)
 refine WO_et rfl (W_cond (y1.2.2 != 0) kr ?_ ?_)
 ·intro hc
  rw [if_pos hc] at hr
  refine W_sr (WO_seg 2 [(24, .agg #[.slice none (List.length ([] : List (ByteArray × ByteArray))) 0]), (25, .int .i64 y1.2.2)] kr kr ?_)
  have st := st.front1
  refine WO_one rfl (One_store (t := 29) (x := (.tmp 2)) (y := (.tmp 24)) (v := .agg #[.slice none (List.length ([] : List (ByteArray × ByteArray))) 0]) (c' := #[.slice none (List.length ([] : List (ByteArray × ByteArray))) 0]) kr (ev (.pointer (some ⟨b1, 0, none⟩))) (ev (.agg #[.slice none (List.length ([] : List (ByteArray × ByteArray))) 0])) st kr kr ?_)
  clear st
  intro w3 st
  refine WO_seg 1 [(3, .int .i64 y1.2.2)] kr kr ?_
  refine WO_end rfl ?_
  have st := st.front1
  have st := st.tail
  refine X_then ?_
  refine W_ret ?_
  refine X_then_ret ?_
  obtain rfl := Option.some.inj hr
  refine X_ret [.cell 2 29, .tmp 3] [.agg #[.slice none (List.length ([] : List (ByteArray × ByteArray))) 0], .int .i64 y1.2.2] rfl (ResAll.cons (ResAt.blk (v := .agg #[.slice none (List.length ([] : List (ByteArray × ByteArray))) 0]) (o := 0) kr st.head kr) (ResAll.cons (ResAt.tmp kr) ResAll.nil)) ?_
  have st := st.nilroom 46 2
  have st := st.front1
  have st := st.tail
  exact ⟨none, 0, m1, rfl, hm, st, (RepS.nil _ _)⟩
 ·intro hc
  rw [if_neg (not_true hc)] at hr
  refine W_skip ?_
  refine X_then ?_
  refine W_seq ?_
  refine W_sr ?_
  replace ⟨o1, hr, hrK⟩ := bindS hr
  refine WO_cut (j := 13) (fun L' w' => ∃ (m2 : Mem), L' = [(2, .pointer (some ⟨b1, 0, none⟩)), (4, .slice a2 (List.length y1.1) c2), (38, .bool o1)] ∧ m.le m2 ∧ St m2 (.blk b1 (.cells #[.slice none (List.length ([] : List (ByteArray × ByteArray))) 0] 29 (0, 0)) :: .room a2 (List.length y1.1) c2 37 2 :: own) w' ∧ RepS (cPair (cInt .i64) (cSl cU8)) m2 a2 c2 y1.1) ?_ ?_
  ·clear hr st
   have hr := hrK
   clear hrK
   rintro _ w4 ⟨m2, rfl, hm, st, r2⟩
   refine WO_et rfl (W_cond o1 kr ?_ ?_)
   ·intro hc
    rw [if_pos hc] at hr
    refine W_sr (WO_seg 1 [(39, .agg #[.slice none (List.length ([] : List (ByteArray × ByteArray))) 0])] kr kr ?_)
    refine WO_one rfl (One_store (t := 29) (x := (.tmp 2)) (y := (.tmp 39)) (v := .agg #[.slice none (List.length ([] : List (ByteArray × ByteArray))) 0]) (c' := #[.slice none (List.length ([] : List (ByteArray × ByteArray))) 0]) kr (ev (.pointer (some ⟨b1, 0, none⟩))) (ev (.agg #[.slice none (List.length ([] : List (ByteArray × ByteArray))) 0])) st kr kr ?_)
    clear st
    intro w5 st
    refine WO_seg 1 [(3, .int .i64 7)] kr kr ?_
    refine WO_end rfl ?_
    have st := st.front1
    have st := st.tail
    refine X_then ?_
    refine W_ret ?_
    refine X_then_ret ?_
    obtain rfl := Option.some.inj hr
    refine X_ret [.cell 2 29, .tmp 3] [.agg #[.slice none (List.length ([] : List (ByteArray × ByteArray))) 0], .int .i64 7] rfl (ResAll.cons (ResAt.blk (v := .agg #[.slice none (List.length ([] : List (ByteArray × ByteArray))) 0]) (o := 0) kr st.head kr) (ResAll.cons (ResAt.tmp kr) ResAll.nil)) ?_
    have st := st.nilroom 46 2
    have st := st.front1
    have st := st.tail
    exact ⟨none, 0, m2, rfl, hm, st, (RepS.nil _ _)⟩
   ·intro hc
    rw [if_neg (not_true hc)] at hr
    refine W_skip ?_
    refine X_then ?_
    refine W_sr (WO_one rfl (One_alloc (d := 7) (e := 29) (.agg #[.slice none 0 0]) kr rfl kr st ?_))
    clear st
    intro b3 w6 st
    refine WO_et rfl (W_seq ?_)
    refine W_sr (WO_seg 4 [(40, .slice a2 (List.length y1.1) c2), (43, .int .i64 (IntKind.wrap .i64 ((List.length y1.1 : Int) - 1)))] kr kr ?_)
    replace ⟨l1, hx3, hr⟩ := bindS hr
    refine WO_one rfl (One_slice (d := 44) (t := 67) (e := 37) (x := (.tmp 40)) (lo := none) (hi := (some (.tmp 43))) (cPair (cInt .i64) (cSl cU8)) kr rfl (ev (.slice a2 (List.length y1.1) c2)) kr r2 (.inl ⟨rfl, rfl⟩) (.inr ⟨_, _, rfl, (ev (.int .i64 (IntKind.wrap .i64 ((List.length y1.1 : Int) - 1))))⟩) hx3 ?_)
    intro a4 c4 r4
    refine WO_seg 2 [(45, .int .i64 (List.length l1 : Int)), (46, .int .i64 0)] kr kr ?_
    refine WO_et rfl (W_block ?_)
    replace ⟨out1, hr, hrKu1⟩ := bindS hr
    refine W_cut (.exit 0) (fun L' w' => ∃ (o2 : (List (ByteArray × ByteArray))) (a5 : Option Addr) (c5 : Nat) (m3 : Mem), (.inl o2) = out1 ∧ L' = [(2, .pointer (some ⟨b1, 0, none⟩)), (4, .slice a2 (List.length y1.1) c2), (7, .pointer (some ⟨b3, 0, none⟩))] ∧ m.le m3 ∧ St m3 (.blk b3 (.cells #[.slice a5 (List.length o2) c5] 29 (0, 0)) :: .blk b1 (.cells #[.slice none (List.length ([] : List (ByteArray × ByteArray))) 0] 29 (0, 0)) :: .room a2 (List.length y1.1) c2 37 2 :: .room a5 (List.length o2) c5 46 2 :: own) w' ∧ RepS (cPair (cInt .i64) (cSl cU8)) m3 a2 c2 y1.1 ∧ RepS (cPair cStr cStr) m3 a5 c5 o2) ?_ ?_
    ·clear hr st
     rintro _ w7 ⟨o2, a5, c5, m3, rfl, rfl, hm, st, r2, r5⟩
     have hr := hrKu1
     clear hrKu1
     dsimp only at hr
     refine X_block_eq ?_
     refine X_then ?_
     refine W_sr (WO_seg 4 [(71, .slice a2 (List.length y1.1) c2), (74, .int .i64 (IntKind.wrap .i64 ((List.length y1.1 : Int) - 1)))] kr kr ?_)
     replace ⟨x3, hx7, hr⟩ := bindS hr
     refine WO_one rfl (One_index (d := 75) (t := 67) (e := 37) (x := (.tmp 71)) (y := (.tmp 74)) (cPair (cInt .i64) (cSl cU8)) kr rfl (ev (.slice a2 (List.length y1.1) c2)) (ev (.int .i64 (IntKind.wrap .i64 ((List.length y1.1 : Int) - 1)))) kr r2 hx7 ?_)
     rintro b8 f3 cs3 ⟨_, _, rfl, rfl, ⟨a9, c9, rfl, r10⟩⟩ hq3
     refine WO_seg 1 [(76, .pointer (some ⟨b8, f3 + 1, none⟩))] kr kr ?_
     refine WO_one rfl (One_load_row (d := 77) (t := 23) (x := (.tmp 76)) (.slice a9 (List.length x3.2) c9) kr rfl (ev (.pointer (some ⟨b8, f3 + 1, none⟩))) st (hq3.drop 1) kr ?_)
     refine WO_seg 1 [(12, .slice a9 (List.length x3.2) c9)] kr kr ?_
     refine WO_end rfl ?_
     have st := st.front2
     have st := st.tail
     refine X_then ?_
     refine W_sr (WO_seg 1 [(79, .slice a9 (List.length x3.2) c9)] kr kr ?_)
     replace ⟨y3, hx8, hr⟩ := bindS hr
     refine WO_one rfl (One_fn 80 47 #[.slice a9 (List.length x3.2) c9, .int .i64 0] kr rfl ?_)
     refine (testgateref03_Uint_ok st r10 hx8).mono ?_
     clear st
     rintro _ w19 ⟨m9, rfl, hle5, st⟩
     refine ⟨_, rfl, ?_⟩
     have hm := Mem.le_trans hm hle5
     have r10 := r10.mono hle5
     have r5 := r5.mono hle5
     refine WO_seg 7 [(13, .int .u64 y3.1), (14, .int .i64 y3.2.1), (6, .int .i64 y3.2.2)] kr kr ?_
     refine WO_et rfl (W_seq ?_)
     refine W_sr ?_
     replace ⟨o4, hr, hrK⟩ := bindS hr
     refine WO_cut (j := 16) (fun L' w' => ∃ (m10 : Mem), L' = [(2, .pointer (some ⟨b1, 0, none⟩)), (7, .pointer (some ⟨b3, 0, none⟩)), (99, .bool o4)] ∧ m.le m10 ∧ St m10 (.blk b3 (.cells #[.slice a5 (List.length o2) c5] 29 (0, 0)) :: .blk b1 (.cells #[.slice none (List.length ([] : List (ByteArray × ByteArray))) 0] 29 (0, 0)) :: .room a5 (List.length o2) c5 46 2 :: own) w' ∧ RepS (cPair cStr cStr) m10 a5 c5 o2) ?_ ?_
     ·clear hr st
      have hr := hrK
      clear hrK
      rintro _ w20 ⟨m10, rfl, hm, st, r5⟩
      refine WO_et rfl (W_cond o4 kr ?_ ?_)
      ·intro hc
       rw [if_pos hc] at hr
       refine W_sr (WO_seg 1 [(100, .agg #[.slice none (List.length ([] : List (ByteArray × ByteArray))) 0])] kr kr ?_)
       have st := st.front1
       refine WO_one rfl (One_store (t := 29) (x := (.tmp 2)) (y := (.tmp 100)) (v := .agg #[.slice none (List.length ([] : List (ByteArray × ByteArray))) 0]) (c' := #[.slice none (List.length ([] : List (ByteArray × ByteArray))) 0]) kr (ev (.pointer (some ⟨b1, 0, none⟩))) (ev (.agg #[.slice none (List.length ([] : List (ByteArray × ByteArray))) 0])) st kr kr ?_)
       clear st
       intro w21 st
       refine WO_seg 1 [(3, .int .i64 6)] kr kr ?_
       refine WO_et rfl (W_ret ?_)
       refine X_then_ret ?_
       obtain rfl := Option.some.inj hr
       refine X_ret [.cell 2 29, .tmp 3] [.agg #[.slice none (List.length ([] : List (ByteArray × ByteArray))) 0], .int .i64 6] rfl (ResAll.cons (ResAt.blk (v := .agg #[.slice none (List.length ([] : List (ByteArray × ByteArray))) 0]) (o := 0) kr st.head kr) (ResAll.cons (ResAt.tmp kr) ResAll.nil)) ?_
       have st := st.nilroom 46 2
       have st := st.front1
       have st := st.tail
       have st := st.front1
       have st := st.tail
       have st := st.front1
       have st := st.tail
       exact ⟨none, 0, m10, rfl, hm, st, (RepS.nil _ _)⟩
      ·intro hc
       rw [if_neg (not_true hc)] at hr
       refine W_skip ?_
       refine X_then ?_
       refine W_seq ?_
       refine W_sr (WO_one rfl (One_load_own (d := 101) (t := 29) (x := (.tmp 7)) (.agg #[.slice a5 (List.length o2) c5]) kr rfl (ev (.pointer (some ⟨b3, 0, none⟩))) st.head kr ?_))
       replace ⟨y4, hx9, hr⟩ := bindS hr
       refine WO_one rfl (One_fn 102 21 #[.agg #[.slice a5 (List.length o2) c5]] kr rfl ?_)
       refine (testgateref07_Check_ok st r5 hx9).mono ?_
       clear st
       rintro _ w22 ⟨m11, rfl, hle6, st⟩
       refine ⟨_, rfl, ?_⟩
       have hm := Mem.le_trans hm hle6
       have r5 := r5.mono hle6
       refine WO_seg 1 [(15, .int .i64 y4)] kr kr ?_
       refine WO_et rfl (W_sr ?_)
       refine WO_seg 2 [(104, .bool (y4 != 0))] kr kr ?_
       refine WO_et rfl (W_cond (y4 != 0) kr ?_ ?_)
       ·intro hc
        rw [if_pos hc] at hr
        refine W_sr (WO_seg 2 [(105, .agg #[.slice none (List.length ([] : List (ByteArray × ByteArray))) 0]), (106, .int .i64 y4)] kr kr ?_)
        have st := st.front1
        refine WO_one rfl (One_store (t := 29) (x := (.tmp 2)) (y := (.tmp 105)) (v := .agg #[.slice none (List.length ([] : List (ByteArray × ByteArray))) 0]) (c' := #[.slice none (List.length ([] : List (ByteArray × ByteArray))) 0]) kr (ev (.pointer (some ⟨b1, 0, none⟩))) (ev (.agg #[.slice none (List.length ([] : List (ByteArray × ByteArray))) 0])) st kr kr ?_)
        clear st
        intro w23 st
        refine WO_seg 1 [(3, .int .i64 y4)] kr kr ?_
        refine WO_et rfl (W_ret ?_)
        refine X_then_ret ?_
        obtain rfl := Option.some.inj hr
        refine X_ret [.cell 2 29, .tmp 3] [.agg #[.slice none (List.length ([] : List (ByteArray × ByteArray))) 0], .int .i64 y4] rfl (ResAll.cons (ResAt.blk (v := .agg #[.slice none (List.length ([] : List (ByteArray × ByteArray))) 0]) (o := 0) kr st.head kr) (ResAll.cons (ResAt.tmp kr) ResAll.nil)) ?_
        have st := st.nilroom 46 2
        have st := st.front1
        have st := st.tail
        have st := st.front1
        have st := st.tail
        have st := st.front1
        have st := st.tail
        exact ⟨none, 0, m11, rfl, hm, st, (RepS.nil _ _)⟩
       ·intro hc
        rw [if_neg (not_true hc)] at hr
        refine W_skip ?_
        refine X_then ?_
        refine W_sr (WO_one rfl (One_load_own (d := 107) (t := 29) (x := (.tmp 7)) (.agg #[.slice a5 (List.length o2) c5]) kr rfl (ev (.pointer (some ⟨b3, 0, none⟩))) st.head kr ?_))
        have st := st.front1
        refine WO_one rfl (One_store (t := 29) (x := (.tmp 2)) (y := (.tmp 107)) (v := .agg #[.slice a5 (List.length o2) c5]) (c' := #[.slice a5 (List.length o2) c5]) kr (ev (.pointer (some ⟨b1, 0, none⟩))) (ev (.agg #[.slice a5 (List.length o2) c5])) st kr kr ?_)
        clear st
        intro w24 st
        refine WO_seg 1 [(3, .int .i64 0)] kr kr ?_
        refine WO_et rfl (W_ret ?_)
        obtain rfl := Option.some.inj hr
        refine X_ret [.cell 2 29, .tmp 3] [.agg #[.slice a5 (List.length o2) c5], .int .i64 0] rfl (ResAll.cons (ResAt.blk (v := .agg #[.slice a5 (List.length o2) c5]) (o := 0) kr st.head kr) (ResAll.cons (ResAt.tmp kr) ResAll.nil)) ?_
        have st := st.tail
        have st := st.tail
        exact ⟨a5, c5, m11, rfl, hm, st, r5⟩
     ·intro K
      clear hrK
      refine WO_seg 3 [(86, .bool (y3.2.2 != 0))] kr kr ?_
      rcases bcases (y3.2.2 != 0) with hc | hc
      ·rw [if_pos hc] at hr
       refine WO_fact (t := 86) (b := true) (y3.2.2 != 0) kr hc ?_
       refine WO_seg 13 [(99, .bool true)] kr kr ?_
       obtain rfl := Option.some.inj hr
       have st := st.front2.front2.front2
       exact WO_env _ kr (K _ _ ⟨m9, rfl, hm, st, r5⟩)
      ·rw [if_neg (not_true hc)] at hr
       refine WO_fact (t := 86) (b := false) (y3.2.2 != 0) kr hc ?_
       refine WO_seg 6 [(92, .bool (y3.2.1 != (List.length x3.2 : Int)))] kr kr ?_
       rcases bcases (y3.2.1 != (List.length x3.2 : Int)) with hc | hc
       ·rw [if_pos hc] at hr
        refine WO_fact (t := 92) (b := true) (y3.2.1 != (List.length x3.2 : Int)) kr hc ?_
        refine WO_seg 7 [(99, .bool true)] kr kr ?_
        obtain rfl := Option.some.inj hr
        have st := st.front2.front2.front2
        exact WO_env _ kr (K _ _ ⟨m9, rfl, hm, st, r5⟩)
       ·rw [if_neg (not_true hc)] at hr
        refine WO_fact (t := 92) (b := false) (y3.2.1 != (List.length x3.2 : Int)) kr hc ?_
        refine WO_seg 2 [(93, .int .u64 y3.1), (94, .pointer (some ⟨b3, 0, none⟩))] kr kr ?_
        refine WO_one rfl (One_load_own (d := 95) (t := 27) (x := (.tmp 94)) (.slice a5 (List.length o2) c5) kr rfl (ev (.pointer (some ⟨b3, 0, none⟩))) st.head kr ?_)
        refine WO_seg 4 [(99, .bool (y3.1 != (IntKind.wrap .u64 (List.length o2 : Int))))] kr kr ?_
        obtain rfl := Option.some.inj hr
        have st := st.front2.front2.front2
        exact WO_env _ kr (K _ _ ⟨m9, rfl, hm, st, r5⟩)
    intro K0_u1
    have st := st.nilroom 46 2
    have st := st.front3.front3.front3
    refine W_env _ kr (W_loop (fun k1 L' w' => ∃ (s1 : Int × (List (ByteArray × ByteArray))) (a6 : Option Addr) (c6 : Nat) (m4 : Mem), loopM (testgateref07_Decode_L1 N l1) k1 s1 = some out1 ∧ L' = [(2, .pointer (some ⟨b1, 0, none⟩)), (4, .slice a2 (List.length y1.1) c2), (7, .pointer (some ⟨b3, 0, none⟩)), (44, .slice a4 (List.length l1) c4), (45, .int .i64 (List.length l1 : Int)), (46, .int .i64 s1.1)] ∧ m.le m4 ∧ St m4 (.blk b3 (.cells #[.slice a6 (List.length s1.2) c6] 29 (0, 0)) :: .blk b1 (.cells #[.slice none (List.length ([] : List (ByteArray × ByteArray))) 0] 29 (0, 0)) :: .room a2 (List.length y1.1) c2 37 2 :: .room a6 (List.length s1.2) c6 46 2 :: own) w' ∧ RepS (cPair (cInt .i64) (cSl cU8)) m4 a2 c2 y1.1 ∧ RepS (cPair (cInt .i64) (cSl cU8)) m4 a4 c4 l1 ∧ RepS (cPair cStr cStr) m4 a6 c6 s1.2) N ⟨(0, ([] : List (ByteArray × ByteArray))), none, 0, m2, hr, rfl, hm, st, r2, r4, (RepS.nil _ _)⟩ ?_)
    clear st hr
    rintro k1 _ w8 ⟨s1, a6, c6, m4, hL, rfl, hm, st, r2, r4, r6⟩
    rcases k1 with _ | k1
    ·exact loopM_zero hL
    ·obtain ⟨qu1, hr, hSu1, hBu1⟩ := loopM_succ hL
     clear hL
     unfold testgateref07_Decode_L1 at hr
     refine W_sr (WO_seg 1 [(47, .bool (decide (s1.1 < (List.length l1 : Int))))] kr kr ?_)
     refine WO_et rfl (W_seq ?_)
     refine W_cond (decide (s1.1 < (List.length l1 : Int))) kr ?_ ?_
     ·intro hc
      rw [if_pos hc] at hr
      refine W_skip ?_
      refine X_then ?_
      refine W_seq ?_
      refine W_block ?_
      refine W_sr ?_
      replace ⟨x2, hx4, hr⟩ := bindS hr
      refine WO_one rfl (One_index (d := 48) (t := 67) (e := 37) (x := (.tmp 44)) (y := (.tmp 46)) (cPair (cInt .i64) (cSl cU8)) kr rfl (ev (.slice a4 (List.length l1) c4)) (ev (.int .i64 s1.1)) kr r4 hx4 ?_)
      rintro b4 f2 cs2 ⟨_, _, rfl, rfl, ⟨a7, c7, rfl, r7⟩⟩ hq2
      refine WO_one rfl (One_load_row (d := 49) (t := 37) (x := (.tmp 48)) (.agg #[.int .i64 x2.1, .slice a7 (List.length x2.2) c7]) kr rfl (ev (.pointer (some ⟨b4, f2, none⟩))) st hq2 kr ?_)
      refine WO_one rfl (One_alloc (d := 9) (e := 37) (.agg #[.int .i64 0, .slice none 0 0]) kr rfl kr st ?_)
      clear st
      intro b5 w9 st
      refine WO_one rfl (One_store (t := 37) (x := (.tmp 9)) (y := (.tmp 49)) (v := .agg #[.int .i64 x2.1, .slice a7 (List.length x2.2) c7]) (c' := #[.int .i64 x2.1, .slice a7 (List.length x2.2) c7]) kr (ev (.pointer (some ⟨b5, 0, none⟩))) (ev (.agg #[.int .i64 x2.1, .slice a7 (List.length x2.2) c7])) st kr kr ?_)
      clear st
      intro w10 st
      refine WO_et rfl (W_sr ?_)
      refine WO_seg 1 [(51, .pointer (some ⟨b5, 1, none⟩))] kr kr ?_
      refine WO_one rfl (One_load_own (d := 52) (t := 23) (x := (.tmp 51)) (.slice a7 (List.length x2.2) c7) kr rfl (ev (.pointer (some ⟨b5, 1, none⟩))) st.head kr ?_)
      replace ⟨y2, hx5, hr⟩ := bindS hr
      refine WO_one rfl (One_fn 53 46 #[.slice a7 (List.length x2.2) c7] kr rfl ?_)
      refine (testgateref07_file_ok st r7 hx5).mono ?_
      clear st
      rintro _ w11 ⟨m5, rfl, hle2, st⟩
      refine ⟨_, rfl, ?_⟩
      have hm := Mem.le_trans hm hle2
      have r2 := r2.mono hle2
      have r4 := r4.mono hle2
      have r7 := r7.mono hle2
      have r6 := r6.mono hle2
      refine WO_seg 3 [(54, .agg #[.string y2.1.1, .string y2.1.2]), (55, .bool y2.2)] kr kr ?_
      refine WO_one rfl (One_alloc (d := 10) (e := 46) (.agg #[.string (⟨#[]⟩ : ByteArray), .string (⟨#[]⟩ : ByteArray)]) kr rfl kr st ?_)
      clear st
      intro b6 w12 st
      refine WO_one rfl (One_store (t := 46) (x := (.tmp 10)) (y := (.tmp 54)) (v := .agg #[.string y2.1.1, .string y2.1.2]) (c' := #[.string y2.1.1, .string y2.1.2]) kr (ev (.pointer (some ⟨b6, 0, none⟩))) (ev (.agg #[.string y2.1.1, .string y2.1.2])) st kr kr ?_)
      clear st
      intro w13 st
      refine WO_seg 1 [(11, .bool y2.2)] kr kr ?_
      refine WO_et rfl (W_seq ?_)
      refine W_sr ?_
      replace ⟨o3, hr, hrK⟩ := bindS hr
      refine WO_cut (j := 7) (fun L' w' => ∃ (m6 : Mem), L' = [(2, .pointer (some ⟨b1, 0, none⟩)), (4, .slice a2 (List.length y1.1) c2), (7, .pointer (some ⟨b3, 0, none⟩)), (10, .pointer (some ⟨b6, 0, none⟩)), (44, .slice a4 (List.length l1) c4), (45, .int .i64 (List.length l1 : Int)), (46, .int .i64 s1.1), (62, .bool o3)] ∧ m.le m6 ∧ St m6 (.blk b6 (.cells #[.string y2.1.1, .string y2.1.2] 46 (0, 0)) :: .blk b5 (.cells #[.int .i64 x2.1, .slice a7 (List.length x2.2) c7] 37 (0, 0)) :: .blk b3 (.cells #[.slice a6 (List.length s1.2) c6] 29 (0, 0)) :: .blk b1 (.cells #[.slice none (List.length ([] : List (ByteArray × ByteArray))) 0] 29 (0, 0)) :: .room a2 (List.length y1.1) c2 37 2 :: .room a6 (List.length s1.2) c6 46 2 :: own) w' ∧ RepS (cPair (cInt .i64) (cSl cU8)) m6 a2 c2 y1.1 ∧ RepS (cPair (cInt .i64) (cSl cU8)) m6 a4 c4 l1 ∧ RepS cU8 m6 a7 c7 x2.2 ∧ RepS (cPair cStr cStr) m6 a6 c6 s1.2) ?_ ?_
      ·clear hr st
       have hr := hrK
       clear hrK
       rintro _ w14 ⟨m6, rfl, hm, st, r2, r4, r7, r6⟩
       refine WO_et rfl (W_cond o3 kr ?_ ?_)
       ·intro hc
        rw [if_pos hc] at hr
        refine W_sr (WO_seg 1 [(63, .agg #[.slice none (List.length ([] : List (ByteArray × ByteArray))) 0])] kr kr ?_)
        have st := st.front3
        refine WO_one rfl (One_store (t := 29) (x := (.tmp 2)) (y := (.tmp 63)) (v := .agg #[.slice none (List.length ([] : List (ByteArray × ByteArray))) 0]) (c' := #[.slice none (List.length ([] : List (ByteArray × ByteArray))) 0]) kr (ev (.pointer (some ⟨b1, 0, none⟩))) (ev (.agg #[.slice none (List.length ([] : List (ByteArray × ByteArray))) 0])) st kr kr ?_)
        clear st
        intro w15 st
        refine WO_seg 1 [(3, .int .i64 6)] kr kr ?_
        refine WO_end rfl ?_
        have st := st.front4
        have st := st.tail
        refine X_then ?_
        refine W_ret ?_
        refine X_then_ret ?_
        refine X_block_ret ?_
        refine X_then_ret ?_
        obtain rfl := Option.some.inj hr
        have ho := hBu1 _ rfl
        subst ho
        have hr := hrKu1
        dsimp only at hr
        refine X_then_ret ?_
        refine X_block_ret ?_
        refine X_then_ret ?_
        obtain rfl := Option.some.inj hr
        refine X_ret [.cell 2 29, .tmp 3] [.agg #[.slice none (List.length ([] : List (ByteArray × ByteArray))) 0], .int .i64 6] rfl (ResAll.cons (ResAt.blk (v := .agg #[.slice none (List.length ([] : List (ByteArray × ByteArray))) 0]) (o := 0) kr st.head kr) (ResAll.cons (ResAt.tmp kr) ResAll.nil)) ?_
        have st := st.nilroom 46 2
        have st := st.front1
        have st := st.tail
        have st := st.front1
        have st := st.tail
        have st := st.front1
        have st := st.tail
        have st := st.front1
        have st := st.tail
        have st := st.front1
        have st := st.tail
        exact ⟨none, 0, m6, rfl, hm, st, (RepS.nil _ _)⟩
       ·intro hc
        rw [if_neg (not_true hc)] at hr
        refine W_skip ?_
        refine X_then ?_
        refine W_region ?_
        refine WO_seg 1 [(64, .pointer (some ⟨b3, 0, none⟩))] kr kr ?_
        refine WO_one rfl (One_load_own (d := 65) (t := 27) (x := (.tmp 64)) (.slice a6 (List.length s1.2) c6) kr rfl (ev (.pointer (some ⟨b3, 0, none⟩))) st.tail.tail.head kr ?_)
        refine WO_one rfl (One_load_own (d := 66) (t := 46) (x := (.tmp 10)) (.agg #[.string y2.1.1, .string y2.1.2]) kr rfl (ev (.pointer (some ⟨b6, 0, none⟩))) st.head kr ?_)
        refine WO_one rfl (One_buildSlice (d := 67) (t := 27) (e := 46) (len := 1) (parts := #[(0, (.tmp 66))]) (cPair cStr cStr) (xs := [(y2.1.1, y2.1.2)]) [.string y2.1.1, .string y2.1.2] kr rfl (fun _ => buildCells_run kr _) rfl rfl st ⟨[.string y2.1.1, .string y2.1.2], _, rfl, ⟨_, _, rfl, rfl, rfl⟩, rfl⟩ ?_)
        clear st
        intro b7 m7 w16 hle3 st r8
        have hm := Mem.le_trans hm hle3
        have r2 := r2.mono hle3
        have r4 := r4.mono hle3
        have r6 := r6.mono hle3
        have r7 := r7.mono hle3
        have st := st.front6
        replace ⟨l2, hx6, hr⟩ := bindS hr
        refine WO_one rfl (One_append (d := 68) (t := 27) (u := 27) (e := 46) (by_ := 32) (x := (.tmp 65)) (y := (.tmp 67)) (cPair cStr cStr) kr rfl (ev (.slice a6 (List.length s1.2) c6)) (ev (.slice (some ⟨b7, 0, none⟩) (List.length ([(y2.1.1, y2.1.2)])) 1)) st kr (.inl kr) r6 r8.src hx6 ?_)
        clear st
        intro a8 c8 m8 w17 hle4 st r9
        have hm := Mem.le_trans hm hle4
        have r2 := r2.mono hle4
        have r4 := r4.mono hle4
        have r6 := r6.mono hle4
        have r8 := r8.mono hle4
        have r7 := r7.mono hle4
        refine WO_seg 1 [(69, .pointer (some ⟨b3, 0, none⟩))] kr kr ?_
        have st := st.front4
        refine WO_one rfl (One_store (t := 27) (x := (.tmp 69)) (y := (.tmp 68)) (v := .slice a8 (List.length l2) c8) (c' := #[.slice a8 (List.length l2) c8]) kr (ev (.pointer (some ⟨b3, 0, none⟩))) (ev (.slice a8 (List.length l2) c8)) st kr kr ?_)
        clear st
        intro w18 st
        refine WO_end rfl ?_
        have st := st.front2
        have st := st.tail
        refine X_block ?_
        refine X_then ?_
        refine W_region ?_
        refine WO_seg 2 [(46, .int .i64 (IntKind.wrap .i64 (s1.1 + 1)))] kr kr ?_
        refine WO_end rfl ?_
        obtain rfl := Option.some.inj hr
        have hL := hSu1 _ rfl
        have st := st.front2
        have st := st.tail
        have st := st.front2
        have st := st.tail
        have st := st.front1.front3.front3.front3
        exact X_env _ kr (X_round k1 (Nat.lt_succ_self _) ⟨(IntKind.wrap .i64 (s1.1 + 1), l2), a8, c8, m8, hL, rfl, hm, st, r2, r4, r9⟩)
      ·intro K
       clear hrK
       refine WO_seg 1 [(56, .pointer (some ⟨b5, 0, none⟩))] kr kr ?_
       refine WO_one rfl (One_load_own (d := 57) (t := 3) (x := (.tmp 56)) (.int .i64 x2.1) kr rfl (ev (.pointer (some ⟨b5, 0, none⟩))) st.tail.head kr ?_)
       refine WO_seg 2 [(59, .bool (x2.1 != 1))] kr kr ?_
       rcases bcases (x2.1 != 1) with hc | hc
       ·rw [if_pos hc] at hr
        refine WO_fact (t := 59) (b := true) (x2.1 != 1) kr hc ?_
        refine WO_seg 3 [(62, .bool true)] kr kr ?_
        obtain rfl := Option.some.inj hr
        have st := st.front5.front5.front5.front5.front5.front5
        exact WO_env _ kr (K _ _ ⟨m5, rfl, hm, st, r2, r4, r7, r6⟩)
       ·rw [if_neg (not_true hc)] at hr
        refine WO_fact (t := 59) (b := false) (x2.1 != 1) kr hc ?_
        refine WO_seg 3 [(62, .bool (!y2.2))] kr kr ?_
        obtain rfl := Option.some.inj hr
        have st := st.front5.front5.front5.front5.front5.front5
        exact WO_env _ kr (K _ _ ⟨m5, rfl, hm, st, r2, r4, r7, r6⟩)
     ·intro hc
      rw [if_neg (not_true hc)] at hr
      refine W_exit ?_
      refine X_then_exit ?_
      obtain rfl := Option.some.inj hr
      have ho := hBu1 _ rfl
      have st := st.front3.front3.front3.front3
      refine X_then_exit ?_
      exact X_env _ kr (K0_u1 _ _ ⟨s1.2, a6, c6, m4, ho, rfl, hm, st, r2, r6⟩)
  ·intro K
   clear hrK
   refine WO_seg 4 [(29, .bool ((List.length y1.1 : Int) == 0))] kr kr ?_
   rcases bcases ((List.length y1.1 : Int) == 0) with hc | hc
   ·rw [if_pos hc] at hr
    refine WO_fact (t := 29) (b := true) ((List.length y1.1 : Int) == 0) kr hc ?_
    refine WO_seg 9 [(38, .bool true)] kr kr ?_
    obtain rfl := Option.some.inj hr
    have st := st.front1
    exact WO_env _ kr (K _ _ ⟨m1, rfl, hm, st, r2⟩)
   ·rw [if_neg (not_true hc)] at hr
    refine WO_fact (t := 29) (b := false) ((List.length y1.1 : Int) == 0) kr hc ?_
    refine WO_seg 4 [(30, .slice a2 (List.length y1.1) c2), (33, .int .i64 (IntKind.wrap .i64 ((List.length y1.1 : Int) - 1)))] kr kr ?_
    replace ⟨x1, hx2, hr⟩ := bindS hr
    refine WO_one rfl (One_index (d := 34) (t := 67) (e := 37) (x := (.tmp 30)) (y := (.tmp 33)) (cPair (cInt .i64) (cSl cU8)) kr rfl (ev (.slice a2 (List.length y1.1) c2)) (ev (.int .i64 (IntKind.wrap .i64 ((List.length y1.1 : Int) - 1)))) kr r2 hx2 ?_)
    rintro b2 f1 cs1 ⟨_, _, rfl, rfl, ⟨a3, c3, rfl, r3⟩⟩ hq1
    refine WO_seg 1 [(35, .pointer (some ⟨b2, f1, none⟩))] kr kr ?_
    refine WO_one rfl (One_load_row (d := 36) (t := 3) (x := (.tmp 35)) (.int .i64 x1.1) kr rfl (ev (.pointer (some ⟨b2, f1, none⟩))) st hq1 kr ?_)
    refine WO_seg 2 [(38, .bool (x1.1 != 2))] kr kr ?_
    obtain rfl := Option.some.inj hr
    have st := st.front1
    exact WO_env _ kr (K _ _ ⟨m1, rfl, hm, st, r2⟩)
def testgateref07_Same_L1 (N : Nat) (p0 : (List (ByteArray × ByteArray))) (p1 : (List (ByteArray × ByteArray))) (s1 : Int) : Option ((Int) ⊕ ((Unit) ⊕ (Bool))) :=
 if (decide (s1 < (List.length p0 : Int))) = true then ((idx p0 s1).bind fun x1 => (idx p1 s1).bind fun x2 => if (!((x1.1.toList == x2.1.toList) && ((x1.2.toList == x2.2.toList) && true))) = true then (some (.inr (.inr (false)))) else (some (.inl (IntKind.wrap .i64 (s1 + 1))))) else (some (.inr (.inl ())))
def testgateref07_Same (N : Nat) (p0 : (List (ByteArray × ByteArray))) (p1 : (List (ByteArray × ByteArray))) : Option (Bool) :=
 if ((List.length p0 : Int) != (List.length p1 : Int)) = true then (some false) else ((loopM (testgateref07_Same_L1 N p0 p1) N 0).bind fun out1 => (match out1 with | .inl o1 => some true | .inr (z) => some z))
set_option maxHeartbeats 4000000 in
set_option maxRecDepth 100000 in
theorem testgateref07_Same_ok {N : Nat} {m : Mem} {own : List Piece} {w : World} {p0 : (List (ByteArray × ByteArray))} {p1 : (List (ByteArray × ByteArray))} {a1 : Option Addr} {c1 : Nat} {a2 : Option Addr} {c2 : Nat} {r : Bool} (st : St m (own) w) (r1 : RepS (cPair cStr cStr) m a1 c1 p0) (r2 : RepS (cPair cStr cStr) m a2 c2 p1) (hr : testgateref07_Same N p0 p1 = some r) : Calls Tryz.prog 27 #[.agg #[.slice a1 (List.length p0) c1], .agg #[.slice a2 (List.length p1) c2]] w fun e w' => ∃ (m' : Mem), e = .returned (.bool r) ∧ m.le m' ∧ St m' (own) w' := by
 unfold testgateref07_Same at hr
 have hm := m.le_refl
 refine W_calls Tryz.func27 rfl Tryz.ntmps27 [(0, .agg #[.slice a1 (List.length p0) c1]), (1, .agg #[.slice a2 (List.length p1) c2])] kr rfl ?_
 refine W_sr (WO_one rfl (One_box (d := 2) (e := 29) (x := (.tmp 0)) (.agg #[.slice a1 (List.length p0) c1]) kr rfl kr st ?_))
 clear st
 intro b1 m1 w1 hle1 st hb1
 have hm := Mem.le_trans hm hle1
 have r1 := r1.mono hle1
 have r2 := r2.mono hle1
 refine WO_one rfl (One_box (d := 3) (e := 29) (x := (.tmp 1)) (.agg #[.slice a2 (List.length p1) c2]) kr rfl kr st ?_)
 clear st
 intro b2 m2 w2 hle2 st hb2
 have hm := Mem.le_trans hm hle2
 have r1 := r1.mono hle2
 have r2 := r2.mono hle2
 have hb1 := hb1.mono hle2
 refine WO_seg 1 [] kr kr ?_
 refine WO_et rfl (W_seq ?_)
 refine W_sr (WO_seg 1 [(6, .pointer (some ⟨b1, 0, none⟩))] kr kr ?_)
 refine WO_one rfl (One_load_row (d := 7) (t := 27) (x := (.tmp 6)) (.slice a1 (List.length p0) c1) kr rfl (ev (.pointer (some ⟨b1, 0, none⟩))) st hb1 kr ?_)
 refine WO_seg 2 [(8, .int .i64 (List.length p0 : Int)), (9, .pointer (some ⟨b2, 0, none⟩))] kr kr ?_
 refine WO_one rfl (One_load_row (d := 10) (t := 27) (x := (.tmp 9)) (.slice a2 (List.length p1) c2) kr rfl (ev (.pointer (some ⟨b2, 0, none⟩))) st hb2 kr ?_)
 refine WO_seg 2 [(12, .bool ((List.length p0 : Int) != (List.length p1 : Int)))] kr kr ?_
 refine WO_et rfl (W_cond ((List.length p0 : Int) != (List.length p1 : Int)) kr ?_ ?_)
 ·intro hc
  rw [if_pos hc] at hr
  refine W_sr (WO_seg 1 [(4, .bool false)] kr kr ?_)
  refine WO_et rfl (W_ret ?_)
  refine X_then_ret ?_
  obtain rfl := Option.some.inj hr
  refine X_ret [.tmp 4] [.bool false] rfl (ResAll.cons (ResAt.tmp kr) ResAll.nil) ?_
  exact ⟨m2, rfl, hm, st⟩
 ·intro hc
  rw [if_neg (not_true hc)] at hr
  refine W_skip ?_
  refine X_then ?_
  refine W_seq ?_
  refine W_sr (WO_seg 1 [(13, .pointer (some ⟨b1, 0, none⟩))] kr kr ?_)
  refine WO_one rfl (One_load_row (d := 14) (t := 27) (x := (.tmp 13)) (.slice a1 (List.length p0) c1) kr rfl (ev (.pointer (some ⟨b1, 0, none⟩))) st hb1 kr ?_)
  refine WO_seg 2 [(15, .int .i64 (List.length p0 : Int)), (16, .int .i64 0)] kr kr ?_
  refine WO_et rfl (W_block ?_)
  replace ⟨out1, hr, hrKu1⟩ := bindS hr
  refine W_cut (.exit 0) (fun L' w' => ∃ (o1 : Unit) (m3 : Mem), (.inl o1) = out1 ∧ L' = [] ∧ m.le m3 ∧ St m3 (own) w') ?_ ?_
  ·clear hr st
   rintro _ w3 ⟨o1, m3, rfl, rfl, hm, st⟩
   have hr := hrKu1
   clear hrKu1
   dsimp only at hr
   refine X_block_eq ?_
   refine X_then ?_
   refine W_sr (WO_seg 1 [(4, .bool true)] kr kr ?_)
   refine WO_et rfl (W_ret ?_)
   obtain rfl := Option.some.inj hr
   refine X_ret [.tmp 4] [.bool true] rfl (ResAll.cons (ResAt.tmp kr) ResAll.nil) ?_
   exact ⟨m3, rfl, hm, st⟩
  intro K0_u1
  refine W_env _ kr (W_loop (fun k1 L' w' => ∃ (s1 : Int) (m4 : Mem), loopM (testgateref07_Same_L1 N p0 p1) k1 s1 = some out1 ∧ L' = [(2, .pointer (some ⟨b1, 0, none⟩)), (3, .pointer (some ⟨b2, 0, none⟩)), (15, .int .i64 (List.length p0 : Int)), (16, .int .i64 s1)] ∧ m.le m4 ∧ St m4 (own) w' ∧ MRow m4 b1 0 [.slice a1 (List.length p0) c1] ∧ RepS (cPair cStr cStr) m4 a1 c1 p0 ∧ MRow m4 b2 0 [.slice a2 (List.length p1) c2] ∧ RepS (cPair cStr cStr) m4 a2 c2 p1) N ⟨0, m2, hr, rfl, hm, st, hb1, r1, hb2, r2⟩ ?_)
  clear st hr
  rintro k1 _ w4 ⟨s1, m4, hL, rfl, hm, st, hb1, r1, hb2, r2⟩
  rcases k1 with _ | k1
  ·exact loopM_zero hL
  ·obtain ⟨qu1, hr, hSu1, hBu1⟩ := loopM_succ hL
   clear hL
   unfold testgateref07_Same_L1 at hr
   refine W_sr (WO_seg 1 [(17, .bool (decide (s1 < (List.length p0 : Int))))] kr kr ?_)
   refine WO_et rfl (W_seq ?_)
   refine W_cond (decide (s1 < (List.length p0 : Int))) kr ?_ ?_
   ·intro hc
    rw [if_pos hc] at hr
    refine W_skip ?_
    refine X_then ?_
    refine W_seq ?_
    refine W_block ?_
    refine W_sr (WO_seg 2 [(5, .int .i64 s1)] kr kr ?_)
    refine WO_et rfl (W_seq ?_)
    refine W_draw [(11, fun w' => Inv m4 w' ∧ True)] kr st ?_
    clear st
    intro w5 _ st
    have hmS1 := m4.le_refl
    refine ⟨⟨.inr ⟨Inv.anti st.inv hmS1, trivial⟩, trivial⟩, ?_⟩
    refine WA_pure 0 19 (.pointer (some ⟨b1, 0, none⟩)) kr rfl kr (.head _) (QP_then (QP_block (QP_then (QP_then (QP_block (QP_then QP_body)))))) ?_
    refine WA_load_row (t := 27) (x := (.tmp 19)) 1 20 (.slice a1 (List.length p0) c1) kr rfl kr (.head _) (QP_then (QP_block (QP_then (QP_then (QP_block (QP_then QP_body)))))) (fun _ h => h.1) (ev (.pointer (some ⟨b1, 0, none⟩))) hb1 kr ?_
    refine WA_pure 2 21 (.int .i64 s1) kr rfl kr (.head _) (QP_then (QP_block (QP_then (QP_then (QP_block (QP_then QP_body)))))) ?_
    replace ⟨x1, hx1, hr⟩ := bindS hr
    refine WA_index (t := 27) (e := 46) (x := (.tmp 20)) (y := (.tmp 21)) 3 22 (cPair cStr cStr) kr rfl kr (.head _) (QP_then (QP_block (QP_then (QP_then (QP_block (QP_then QP_body)))))) (ev (.slice a1 (List.length p0) c1)) (ev (.int .i64 s1)) kr r1 hx1 ?_
    rintro b3 f1 cs1 ⟨_, _, rfl, rfl, rfl⟩ hq1
    refine WA_load_row (t := 46) (x := (.tmp 22)) 4 23 (.agg #[.string x1.1, .string x1.2]) kr rfl kr (.head _) (QP_then (QP_block (QP_then (QP_then (QP_block (QP_then QP_body)))))) (fun _ h => h.1) (ev (.pointer (some ⟨b3, f1, none⟩))) hq1 kr ?_
    refine WA_pure 5 24 (.pointer (some ⟨b2, 0, none⟩)) kr rfl kr (.head _) (QP_then (QP_block (QP_then (QP_then (QP_block (QP_then QP_body)))))) ?_
    refine WA_load_row (t := 27) (x := (.tmp 24)) 6 25 (.slice a2 (List.length p1) c2) kr rfl kr (.head _) (QP_then (QP_block (QP_then (QP_then (QP_block (QP_then QP_body)))))) (fun _ h => h.1) (ev (.pointer (some ⟨b2, 0, none⟩))) hb2 kr ?_
    refine WA_pure 7 26 (.int .i64 s1) kr rfl kr (.head _) (QP_then (QP_block (QP_then (QP_then (QP_block (QP_then QP_body)))))) ?_
    replace ⟨x2, hx2, hr⟩ := bindS hr
    refine WA_index (t := 27) (e := 46) (x := (.tmp 25)) (y := (.tmp 26)) 8 27 (cPair cStr cStr) kr rfl kr (.head _) (QP_then (QP_block (QP_then (QP_then (QP_block (QP_then QP_body)))))) (ev (.slice a2 (List.length p1) c2)) (ev (.int .i64 s1)) kr r2 hx2 ?_
    rintro b4 f2 cs2 ⟨_, _, rfl, rfl, rfl⟩ hq2
    refine WA_load_row (t := 46) (x := (.tmp 27)) 9 28 (.agg #[.string x2.1, .string x2.2]) kr rfl kr (.head _) (QP_then (QP_block (QP_then (QP_then (QP_block (QP_then QP_body)))))) (fun _ h => h.1) (ev (.pointer (some ⟨b4, f2, none⟩))) hq2 kr ?_
    refine WA_one 10 kr  (One_neAgg (d := 29) (t := 46) (t2 := 46) (x := (.tmp 23)) (y := (.tmp 28)) (xs := #[.string x1.1, .string x1.2]) (ys := #[.string x2.1, .string x2.2]) ((x1.1.toList == x2.1.toList) && ((x1.2.toList == x2.2.toList) && true)) kr rfl (ev (.agg #[.string x1.1, .string x1.2])) (ev (.agg #[.string x2.1, .string x2.2])) kr kr kr ?_)
    refine ⟨⟨.inr ⟨Inv.anti st.inv hmS1, trivial⟩, trivial⟩, ?_⟩
    refine WA_done kr ?_
    refine X_then ?_
    refine W_cond (!((x1.1.toList == x2.1.toList) && ((x1.2.toList == x2.2.toList) && true))) kr ?_ ?_
    ·intro hc
     rw [if_pos hc] at hr
     refine W_sr (WO_seg 1 [(4, .bool false)] kr kr ?_)
     refine WO_et rfl (W_ret ?_)
     refine X_block_ret ?_
     refine X_then_ret ?_
     obtain rfl := Option.some.inj hr
     have ho := hBu1 _ rfl
     subst ho
     have hr := hrKu1
     dsimp only at hr
     refine X_then_ret ?_
     refine X_block_ret ?_
     refine X_then_ret ?_
     obtain rfl := Option.some.inj hr
     refine X_ret [.tmp 4] [.bool false] rfl (ResAll.cons (ResAt.tmp kr) ResAll.nil) ?_
     exact ⟨m4, rfl, hm, st⟩
    ·intro hc
     rw [if_neg (not_true hc)] at hr
     refine W_skip ?_
     refine X_block ?_
     refine X_then ?_
     refine W_region ?_
     refine WO_seg 2 [(16, .int .i64 (IntKind.wrap .i64 (s1 + 1)))] kr kr ?_
     refine WO_end rfl ?_
     obtain rfl := Option.some.inj hr
     have hL := hSu1 _ rfl
     exact X_env _ kr (X_round k1 (Nat.lt_succ_self _) ⟨IntKind.wrap .i64 (s1 + 1), m4, hL, rfl, hm, st, hb1, r1, hb2, r2⟩)
   ·intro hc
    rw [if_neg (not_true hc)] at hr
    refine W_exit ?_
    refine X_then_exit ?_
    obtain rfl := Option.some.inj hr
    have ho := hBu1 _ rfl
    refine X_then_exit ?_
    exact X_env _ kr (K0_u1 _ _ ⟨(), m4, ho, rfl, hm, st⟩)
def testgatelaw07_decodes (N : Nat) (p0 : List UInt8) : Option (Bool) :=
 (revision_Decode N p0).bind fun y1 => (testgateref07_Decode N p0).bind fun y2 => (if (y1.2 == y2.2) = true then ((testgateref07_Same N y1.1 y2.1).bind fun y3 => some y3) else (some false) : Option (Bool)).bind fun o1 => some o1
set_option maxHeartbeats 4000000 in
set_option maxRecDepth 100000 in
theorem testgatelaw07_decodes_ok {N : Nat} {m : Mem} {own : List Piece} {w : World} {p0 : List UInt8} {a1 : Option Addr} {c1 : Nat} {r : Bool} (st : St m (own) w) (r1 : RepS cU8 m a1 c1 p0) (hr : testgatelaw07_decodes N p0 = some r) : Calls Tryz.prog 9 #[.slice a1 (List.length p0) c1] w fun e w' => ∃ (m' : Mem), e = .returned (.bool r) ∧ m.le m' ∧ St m' (own) w' := by
 unfold testgatelaw07_decodes at hr
 have hm := m.le_refl
 refine W_calls Tryz.func9 rfl Tryz.ntmps9 [(0, .slice a1 (List.length p0) c1)] kr rfl ?_
 refine W_sr (WO_seg 1 [] kr kr ?_)
 refine WO_et rfl (W_sr ?_)
 refine WO_seg 1 [(8, .slice a1 (List.length p0) c1)] kr kr ?_
 replace ⟨y1, hx1, hr⟩ := bindS hr
 refine WO_one rfl (One_fn 9 25 #[.slice a1 (List.length p0) c1] kr rfl ?_)
 refine (revision_Decode_ok st r1 hx1).mono ?_
 clear st
 rintro _ w1 ⟨a2, c2, m1, rfl, hle1, st, r2⟩
 refine ⟨_, rfl, ?_⟩
 have hm := Mem.le_trans hm hle1
 have r1 := r1.mono hle1
 refine WO_seg 3 [(10, .agg #[.slice a2 (List.length y1.1) c2]), (11, .int .i64 y1.2)] kr kr ?_
 refine WO_one rfl (One_alloc (d := 3) (e := 29) (.agg #[.slice none 0 0]) kr rfl kr st ?_)
 clear st
 intro b1 w2 st
 refine WO_one rfl (One_store (t := 29) (x := (.tmp 3)) (y := (.tmp 10)) (v := .agg #[.slice a2 (List.length y1.1) c2]) (c' := #[.slice a2 (List.length y1.1) c2]) kr (ev (.pointer (some ⟨b1, 0, none⟩))) (ev (.agg #[.slice a2 (List.length y1.1) c2])) st kr kr ?_)
 clear st
 intro w3 st
 refine WO_seg 1 [(4, .int .i64 y1.2)] kr kr ?_
 refine WO_et rfl (W_sr ?_)
 refine WO_seg 1 [(13, .slice a1 (List.length p0) c1)] kr kr ?_
 replace ⟨y2, hx2, hr⟩ := bindS hr
 refine WO_one rfl (One_fn 14 26 #[.slice a1 (List.length p0) c1] kr rfl ?_)
 refine (testgateref07_Decode_ok st r1 hx2).mono ?_
 clear st
 rintro _ w4 ⟨a3, c3, m2, rfl, hle2, st, r3⟩
 refine ⟨_, rfl, ?_⟩
 have hm := Mem.le_trans hm hle2
 have r1 := r1.mono hle2
 have r2 := r2.mono hle2
 refine WO_seg 3 [(15, .agg #[.slice a3 (List.length y2.1) c3]), (16, .int .i64 y2.2)] kr kr ?_
 refine WO_one rfl (One_alloc (d := 5) (e := 29) (.agg #[.slice none 0 0]) kr rfl kr st ?_)
 clear st
 intro b2 w5 st
 refine WO_one rfl (One_store (t := 29) (x := (.tmp 5)) (y := (.tmp 15)) (v := .agg #[.slice a3 (List.length y2.1) c3]) (c' := #[.slice a3 (List.length y2.1) c3]) kr (ev (.pointer (some ⟨b2, 0, none⟩))) (ev (.agg #[.slice a3 (List.length y2.1) c3])) st kr kr ?_)
 clear st
 intro w6 st
 refine WO_seg 1 [(6, .int .i64 y2.2)] kr kr ?_
 refine WO_et rfl (W_sr ?_)
 replace ⟨o1, hr, hrK⟩ := bindS hr
 refine WO_cut (j := 9) (fun L' w' => ∃ (m3 : Mem), L' = [(2, .bool o1)] ∧ m.le m3 ∧ St m3 (.blk b2 (.cells #[.slice a3 (List.length y2.1) c3] 29 (0, 0)) :: .blk b1 (.cells #[.slice a2 (List.length y1.1) c2] 29 (0, 0)) :: .room a3 (List.length y2.1) c3 46 2 :: .room a2 (List.length y1.1) c2 46 2 :: own) w' ∧ RepS (cPair cStr cStr) m3 a3 c3 y2.1 ∧ RepS (cPair cStr cStr) m3 a2 c2 y1.1) ?_ ?_
 ·clear hr st
  have hr := hrK
  clear hrK
  rintro _ w7 ⟨m3, rfl, hm, st, r3, r2⟩
  refine WO_et rfl (W_ret ?_)
  obtain rfl := Option.some.inj hr
  refine X_ret [.tmp 2] [.bool o1] rfl (ResAll.cons (ResAt.tmp kr) ResAll.nil) ?_
  have st := st.tail
  have st := st.tail
  have st := st.tail
  have st := st.tail
  exact ⟨m3, rfl, hm, st⟩
 ·intro K
  clear hrK
  refine WO_seg 4 [(20, .bool (y1.2 == y2.2))] kr kr ?_
  rcases bcases (y1.2 == y2.2) with hc | hc
  ·rw [if_pos hc] at hr
   refine WO_fact (t := 20) (b := true) (y1.2 == y2.2) kr hc ?_
   refine WO_one rfl (One_load_own (d := 21) (t := 29) (x := (.tmp 3)) (.agg #[.slice a2 (List.length y1.1) c2]) kr rfl (ev (.pointer (some ⟨b1, 0, none⟩))) st.tail.tail.head kr ?_)
   refine WO_one rfl (One_load_own (d := 22) (t := 29) (x := (.tmp 5)) (.agg #[.slice a3 (List.length y2.1) c3]) kr rfl (ev (.pointer (some ⟨b2, 0, none⟩))) st.head kr ?_)
   replace ⟨y3, hx3, hr⟩ := bindS hr
   refine WO_one rfl (One_fn 23 27 #[.agg #[.slice a2 (List.length y1.1) c2], .agg #[.slice a3 (List.length y2.1) c3]] kr rfl ?_)
   refine (testgateref07_Same_ok st r2 r3 hx3).mono ?_
   clear st
   rintro _ w8 ⟨m4, rfl, hle3, st⟩
   refine ⟨_, rfl, ?_⟩
   have hm := Mem.le_trans hm hle3
   have r2 := r2.mono hle3
   have r3 := r3.mono hle3
   refine WO_seg 2 [(2, .bool y3)] kr kr ?_
   obtain rfl := Option.some.inj hr
   have st := st.front3.front2.front3.front3
   exact WO_env _ kr (K _ _ ⟨m4, rfl, hm, st, r3, r2⟩)
  ·rw [if_neg (not_true hc)] at hr
   refine WO_fact (t := 20) (b := false) (y1.2 == y2.2) kr hc ?_
   refine WO_seg 5 [(2, .bool false)] kr kr ?_
   obtain rfl := Option.some.inj hr
   have st := st.front3.front2.front3.front3
   exact WO_env _ kr (K _ _ ⟨m2, rfl, hm, st, r3, r2⟩)
def revision_at_L1 (N : Nat) (p0 : (List (ByteArray × ByteArray))) (p1 : ByteArray) (s1 : Int × Int) : Option ((Int × Int) ⊕ ((Int))) :=
 if (decide (s1.1 < s1.2)) = true then ((idx p0 (IntKind.wrap .i64 (Int.fdiv (IntKind.wrap .u64 (IntKind.wrap .i64 (s1.1 + s1.2))) (2 ^ 1)))).bind fun x1 => if (!(!Op.bytesLess x1.1.toList p1.toList)) = true then (some (.inl (IntKind.wrap .i64 ((IntKind.wrap .i64 (Int.fdiv (IntKind.wrap .u64 (IntKind.wrap .i64 (s1.1 + s1.2))) (2 ^ 1))) + 1), s1.2))) else (some (.inl (s1.1, IntKind.wrap .i64 (Int.fdiv (IntKind.wrap .u64 (IntKind.wrap .i64 (s1.1 + s1.2))) (2 ^ 1)))))) else (some (.inr s1.1))
def revision_at (N : Nat) (p0 : (List (ByteArray × ByteArray))) (p1 : ByteArray) : Option (Int × Bool) :=
 ((loopM (revision_at_L1 N p0 p1) N (0, (List.length p0 : Int))).bind fun o2 => some o2 : Option (Int)).bind fun o1 => (if (decide (o1 < (List.length p0 : Int))) = true then ((idx p0 o1).bind fun x2 => some (x2.1.toList == p1.toList)) else (some false) : Option (Bool)).bind fun o3 => some (o1, o3)
set_option maxHeartbeats 4000000 in
set_option maxRecDepth 100000 in
theorem revision_at_ok {N : Nat} {m : Mem} {own : List Piece} {w : World} {p0 : (List (ByteArray × ByteArray))} {p1 : ByteArray} {a1 : Option Addr} {c1 : Nat} {r : Int × Bool} (st : St m (own) w) (r1 : RepS (cPair cStr cStr) m a1 c1 p0) (hr : revision_at N p0 p1 = some r) : Calls Tryz.prog 48 #[.agg #[.slice a1 (List.length p0) c1], .string p1] w fun e w' => ∃ (m' : Mem), e = .returned (.tuple #[.int .i64 r.1, .bool r.2]) ∧ m.le m' ∧ St m' (own) w' := by
 unfold revision_at at hr
 have hm := m.le_refl
 refine W_calls Tryz.func48 rfl Tryz.ntmps48 [(0, .agg #[.slice a1 (List.length p0) c1]), (1, .string p1)] kr rfl ?_
 refine W_sr (WO_one rfl (One_box_own (d := 2) (e := 29) (x := (.tmp 0)) (.agg #[.slice a1 (List.length p0) c1]) kr rfl kr st ?_))
 clear st
 intro b1 w1 st
 refine WO_one rfl (One_box_own (d := 3) (e := 9) (x := (.tmp 1)) (.string p1) kr rfl kr st ?_)
 clear st
 intro b2 w2 st
 refine WO_seg 2 [] kr kr ?_
 refine WO_et rfl (W_sr ?_)
 refine WO_seg 1 [(7, .pointer (some ⟨b1, 0, none⟩))] kr kr ?_
 refine WO_one rfl (One_load_own (d := 8) (t := 27) (x := (.tmp 7)) (.slice a1 (List.length p0) c1) kr rfl (ev (.pointer (some ⟨b1, 0, none⟩))) st.tail.head kr ?_)
 refine WO_seg 2 [(9, .int .i64 (List.length p0 : Int)), (10, .func (.func 67) #[] #[.pointer (some ⟨b1, 0, none⟩), .pointer (some ⟨b2, 0, none⟩)])] kr kr ?_
 replace ⟨o1, hr, hrKu1⟩ := bindS hr
 refine WO_one rfl (One_fn 11 66 #[.int .i64 (List.length p0 : Int), .func (.func 67) #[] #[.pointer (some ⟨b1, 0, none⟩), .pointer (some ⟨b2, 0, none⟩)]] kr rfl ?_)
 refine Calls_cut (fun v' w' => ∃ (m3 : Mem), v' = (.int .i64 o1) ∧ m.le m3 ∧ St m3 (.blk b2 (.cells #[.string p1] 9 (0, 0)) :: .blk b1 (.cells #[.slice a1 (List.length p0) c1] 29 (0, 0)) :: own) w' ∧ RepS (cPair cStr cStr) m3 a1 c1 p0) ?_ ?_
 ·clear hr st
  have hr := hrKu1
  clear hrKu1
  rintro _ w3 ⟨m3, rfl, hm, st, r1⟩
  refine ⟨_, rfl, ?_⟩
  refine WO_seg 1 [(6, .int .i64 o1)] kr kr ?_
  refine WO_et rfl (W_seq ?_)
  replace ⟨o3, hr, hrK⟩ := bindS hr
  refine W_cut .normal (fun L' w' => ∃ (m6 : Mem), L' = [(4, .int .i64 o1), (5, .bool o3)] ∧ m.le m6 ∧ St m6 (.blk b2 (.cells #[.string p1] 9 (0, 0)) :: .blk b1 (.cells #[.slice a1 (List.length p0) c1] 29 (0, 0)) :: own) w' ∧ RepS (cPair cStr cStr) m6 a1 c1 p0) ?_ ?_
  ·clear hr st
   have hr := hrK
   clear hrK
   rintro _ w7 ⟨m6, rfl, hm, st, r1⟩
   refine X_then ?_
   refine W_ret ?_
   obtain rfl := Option.some.inj hr
   refine X_ret [.tmp 4, .tmp 5] [.int .i64 o1, .bool o3] rfl (ResAll.cons (ResAt.tmp kr) (ResAll.cons (ResAt.tmp kr) ResAll.nil)) ?_
   have st := st.tail
   have st := st.tail
   exact ⟨m6, rfl, hm, st⟩
  ·intro K
   clear hrK
   refine W_draw [(18, fun w' => Inv m3 w' ∧ Piece.holds m3 w' (.blk b2 (.cells #[.string p1] 9 (0, 0))) ∧ Piece.holds m3 w' (.blk b1 (.cells #[.slice a1 (List.length p0) c1] 29 (0, 0))) ∧ True)] kr st ?_
   clear st
   intro w8 _ st
   have hmS2 := m3.le_refl
   refine ⟨⟨.inr ⟨Inv.anti st.inv hmS2, Piece.holds_anti st.head hmS2, Piece.holds_anti st.tail.head hmS2, trivial⟩, trivial⟩, ?_⟩
   refine WA_pure 0 12 (.int .i64 o1) kr rfl kr (.head _) (QP_then QP_body) ?_
   refine WA_pure 1 13 (.int .i64 o1) kr rfl kr (.head _) (QP_then QP_body) ?_
   refine WA_pure 2 14 (.pointer (some ⟨b1, 0, none⟩)) kr rfl kr (.head _) (QP_then QP_body) ?_
   refine WA_load_own (t := 27) (x := (.tmp 14)) 3 15 (.slice a1 (List.length p0) c1) kr rfl kr (.head _) (QP_then QP_body) (fun _ h => h.2.2.1) (ev (.pointer (some ⟨b1, 0, none⟩))) kr ?_
   refine WA_pure 4 16 (.int .i64 (List.length p0 : Int)) kr rfl kr (.head _) (QP_then QP_body) ?_
   refine WA_pure 5 17 (.bool (decide (o1 < (List.length p0 : Int)))) kr rfl kr (.head _) (QP_then QP_body) ?_
   refine WA_pure 6 18 (.bool (decide (o1 < (List.length p0 : Int)))) kr rfl kr (.head _) (QP_then QP_body) ?_
   rcases bcases (decide (o1 < (List.length p0 : Int))) with hc | hc
   ·rw [if_pos hc] at hr
    refine WA_fact (t := 18) (b := true) (decide (o1 < (List.length p0 : Int))) kr hc ?_
    refine WA_pure 7 19 (.pointer (some ⟨b1, 0, none⟩)) kr rfl kr (.head _) (QP_then QP_body) ?_
    refine WA_load_own (t := 27) (x := (.tmp 19)) 8 20 (.slice a1 (List.length p0) c1) kr rfl kr (.head _) (QP_then QP_body) (fun _ h => h.2.2.1) (ev (.pointer (some ⟨b1, 0, none⟩))) kr ?_
    refine WA_pure 9 21 (.int .i64 o1) kr rfl kr (.head _) (QP_then QP_body) ?_
    replace ⟨x2, hx2, hr⟩ := bindS hr
    refine WA_index (t := 27) (e := 46) (x := (.tmp 20)) (y := (.tmp 21)) 10 22 (cPair cStr cStr) kr rfl kr (.head _) (QP_then QP_body) (ev (.slice a1 (List.length p0) c1)) (ev (.int .i64 o1)) kr r1 hx2 ?_
    rintro b4 f2 cs2 ⟨_, _, rfl, rfl, rfl⟩ hq2
    refine WA_pure 11 23 (.pointer (some ⟨b4, f2, none⟩)) kr rfl kr (.head _) (QP_then QP_body) ?_
    refine WA_load_row (t := 9) (x := (.tmp 23)) 12 24 (.string x2.1) kr rfl kr (.head _) (QP_then QP_body) (fun _ h => h.1) (ev (.pointer (some ⟨b4, f2, none⟩))) hq2 kr ?_
    refine WA_load_own (t := 9) (x := (.tmp 3)) 13 25 (.string p1) kr rfl kr (.head _) (QP_then QP_body) (fun _ h => h.2.1) (ev (.pointer (some ⟨b2, 0, none⟩))) kr ?_
    refine WA_pure 14 26 (.bool (x2.1.toList == p1.toList)) kr rfl kr (.head _) (QP_then QP_body) ?_
    refine WA_pure 15 27 (.bool (x2.1.toList == p1.toList)) kr rfl kr (.head _) (QP_then QP_body) ?_
    refine WA_pure 16 4 (.int .i64 o1) kr rfl kr (.head _) (QP_then QP_body) ?_
    refine WA_pure 17 5 (.bool (x2.1.toList == p1.toList)) kr rfl kr (.head _) (QP_then QP_body) ?_
    obtain rfl := Option.some.inj hr
    have st := st.front1.front1
    exact WA_done kr (X_env _ kr (K _ _ ⟨m3, rfl, hm, st, r1⟩))
   ·rw [if_neg (not_true hc)] at hr
    refine WA_fact (t := 18) (b := false) (decide (o1 < (List.length p0 : Int))) kr hc ?_
    refine WA_not 7 19 kr rfl kr (.head _) (QP_then QP_body) ?_
    refine WA_not 8 20 kr rfl kr (.head _) (QP_then QP_body) ?_
    refine WA_not 9 21 kr rfl kr (.head _) (QP_then QP_body) ?_
    refine WA_not 10 22 kr rfl kr (.head _) (QP_then QP_body) ?_
    refine WA_not 11 23 kr rfl kr (.head _) (QP_then QP_body) ?_
    refine WA_not 12 24 kr rfl kr (.head _) (QP_then QP_body) ?_
    refine WA_not 13 25 kr rfl kr (.head _) (QP_then QP_body) ?_
    refine WA_not 14 26 kr rfl kr (.head _) (QP_then QP_body) ?_
    refine WA_pure 15 27 (.bool false) kr rfl kr (.head _) (QP_then QP_body) ?_
    refine WA_pure 16 4 (.int .i64 o1) kr rfl kr (.head _) (QP_then QP_body) ?_
    refine WA_pure 17 5 (.bool false) kr rfl kr (.head _) (QP_then QP_body) ?_
    obtain rfl := Option.some.inj hr
    have st := st.front1.front1
    exact WA_done kr (X_env _ kr (K _ _ ⟨m3, rfl, hm, st, r1⟩))
 ·clear hrKu1
  refine W_calls Tryz.func66 rfl Tryz.ntmps66 [(0, .int .i64 (List.length p0 : Int)), (1, .func (.func 67) #[] #[.pointer (some ⟨b1, 0, none⟩), .pointer (some ⟨b2, 0, none⟩)])] kr rfl ?_
  refine W_sr (WO_seg 1 [] kr kr ?_)
  refine WO_et rfl (W_sr ?_)
  refine WO_seg 3 [(5, .int .i64 0), (6, .int .i64 (List.length p0 : Int))] kr kr ?_
  refine WO_et rfl (W_seq ?_)
  refine W_block ?_
  replace ⟨out1, hr, hrKu2⟩ := bindS hr
  refine W_cut (.exit 0) (fun L' w' => ∃ (o2 : Int) (m4 : Mem), o2 = out1 ∧ L' = [(5, .int .i64 o2)] ∧ m.le m4 ∧ St m4 (.blk b2 (.cells #[.string p1] 9 (0, 0)) :: .blk b1 (.cells #[.slice a1 (List.length p0) c1] 29 (0, 0)) :: own) w' ∧ RepS (cPair cStr cStr) m4 a1 c1 p0) ?_ ?_
  ·clear hr st
   rintro _ w4 ⟨o2, m4, rfl, rfl, hm, st, r1⟩
   have hr := hrKu2
   clear hrKu2
   refine X_block_eq ?_
   refine X_then ?_
   refine W_sr (WO_seg 2 [(4, .int .i64 o2)] kr kr ?_)
   refine WO_et rfl (W_ret ?_)
   obtain rfl := Option.some.inj hr
   refine X_ret [.tmp 4] [.int .i64 o2] rfl (ResAll.cons (ResAt.tmp kr) ResAll.nil) ?_
   have st := st.front1.front1
   exact ⟨_, rfl, ⟨m4, rfl, hm, st, r1⟩⟩
  intro K0_u2
  clear hrKu2
  have st := st.front1.front1
  refine W_env _ kr (W_loop (fun k1 L' w' => ∃ (s1 : Int × Int) (m5 : Mem), loopM (revision_at_L1 N p0 p1) k1 s1 = some out1 ∧ L' = [(1, .func (.func 67) #[] #[.pointer (some ⟨b1, 0, none⟩), .pointer (some ⟨b2, 0, none⟩)]), (5, .int .i64 s1.1), (6, .int .i64 s1.2)] ∧ m.le m5 ∧ St m5 (.blk b2 (.cells #[.string p1] 9 (0, 0)) :: .blk b1 (.cells #[.slice a1 (List.length p0) c1] 29 (0, 0)) :: own) w' ∧ RepS (cPair cStr cStr) m5 a1 c1 p0) N ⟨(0, (List.length p0 : Int)), m, hr, rfl, hm, st, r1⟩ ?_)
  clear st hr
  rintro k1 _ w5 ⟨s1, m5, hL, rfl, hm, st, r1⟩
  rcases k1 with _ | k1
  ·exact loopM_zero hL
  ·obtain ⟨qu2, hr, hSu2, hBu2⟩ := loopM_succ hL
   clear hL
   unfold revision_at_L1 at hr
   refine W_seq ?_
   refine W_sr (WO_seg 3 [(11, .bool (decide (s1.1 < s1.2)))] kr kr ?_)
   refine WO_et rfl (W_cond (decide (s1.1 < s1.2)) kr ?_ ?_)
   ·intro hc
    rw [if_pos hc] at hr
    refine W_skip ?_
    refine X_then ?_
    refine W_block ?_
    refine W_sr (WO_seg 7 [(7, .int .i64 (IntKind.wrap .i64 (Int.fdiv (IntKind.wrap .u64 (IntKind.wrap .i64 (s1.1 + s1.2))) (2 ^ 1))))] kr kr ?_)
    refine WO_et rfl (W_sr ?_)
    refine WO_seg 2 [(18, .func (.func 67) #[] #[.pointer (some ⟨b1, 0, none⟩), .pointer (some ⟨b2, 0, none⟩)]), (19, .int .i64 (IntKind.wrap .i64 (Int.fdiv (IntKind.wrap .u64 (IntKind.wrap .i64 (s1.1 + s1.2))) (2 ^ 1))))] kr kr ?_
    refine WO_one rfl (One_fn 20 67 #[.int .i64 (IntKind.wrap .i64 (Int.fdiv (IntKind.wrap .u64 (IntKind.wrap .i64 (s1.1 + s1.2))) (2 ^ 1))), .pointer (some ⟨b1, 0, none⟩), .pointer (some ⟨b2, 0, none⟩)] kr rfl ?_)
    refine W_calls Tryz.func67 rfl Tryz.ntmps67 [(0, .int .i64 (IntKind.wrap .i64 (Int.fdiv (IntKind.wrap .u64 (IntKind.wrap .i64 (s1.1 + s1.2))) (2 ^ 1)))), (1, .pointer (some ⟨b1, 0, none⟩)), (2, .pointer (some ⟨b2, 0, none⟩))] kr rfl ?_
    refine W_sr (WO_seg 1 [] kr kr ?_)
    refine WO_et rfl (W_seq ?_)
    refine W_draw [(9, fun w' => Inv m5 w' ∧ Piece.holds m5 w' (.blk b2 (.cells #[.string p1] 9 (0, 0))) ∧ Piece.holds m5 w' (.blk b1 (.cells #[.slice a1 (List.length p0) c1] 29 (0, 0))) ∧ True)] kr st ?_
    clear st
    intro w6 _ st
    have hmS1 := m5.le_refl
    refine ⟨⟨.inr ⟨Inv.anti st.inv hmS1, Piece.holds_anti st.head hmS1, Piece.holds_anti st.tail.head hmS1, trivial⟩, trivial⟩, ?_⟩
    refine WA_pure 0 5 (.pointer (some ⟨b1, 0, none⟩)) kr rfl kr (.head _) (QP_then QP_body) ?_
    refine WA_load_own (t := 27) (x := (.tmp 5)) 1 6 (.slice a1 (List.length p0) c1) kr rfl kr (.head _) (QP_then QP_body) (fun _ h => h.2.2.1) (ev (.pointer (some ⟨b1, 0, none⟩))) kr ?_
    refine WA_pure 2 7 (.int .i64 (IntKind.wrap .i64 (Int.fdiv (IntKind.wrap .u64 (IntKind.wrap .i64 (s1.1 + s1.2))) (2 ^ 1)))) kr rfl kr (.head _) (QP_then QP_body) ?_
    replace ⟨x1, hx1, hr⟩ := bindS hr
    refine WA_index (t := 27) (e := 46) (x := (.tmp 6)) (y := (.tmp 7)) 3 8 (cPair cStr cStr) kr rfl kr (.head _) (QP_then QP_body) (ev (.slice a1 (List.length p0) c1)) (ev (.int .i64 (IntKind.wrap .i64 (Int.fdiv (IntKind.wrap .u64 (IntKind.wrap .i64 (s1.1 + s1.2))) (2 ^ 1))))) kr r1 hx1 ?_
    rintro b3 f1 cs1 ⟨_, _, rfl, rfl, rfl⟩ hq1
    refine WA_pure 4 9 (.pointer (some ⟨b3, f1, none⟩)) kr rfl kr (.head _) (QP_then QP_body) ?_
    refine WA_load_row (t := 9) (x := (.tmp 9)) 5 10 (.string x1.1) kr rfl kr (.head _) (QP_then QP_body) (fun _ h => h.1) (ev (.pointer (some ⟨b3, f1, none⟩))) hq1 kr ?_
    refine WA_load_own (t := 9) (x := (.tmp 2)) 6 11 (.string p1) kr rfl kr (.head _) (QP_then QP_body) (fun _ h => h.2.1) (ev (.pointer (some ⟨b2, 0, none⟩))) kr ?_
    refine WA_pure 7 12 (.bool (!Op.bytesLess x1.1.toList p1.toList)) kr rfl kr (.head _) (QP_then QP_body) ?_
    refine WA_pure 8 4 (.bool (!Op.bytesLess x1.1.toList p1.toList)) kr rfl kr (.head _) (QP_then QP_body) ?_
    refine WA_done kr ?_
    refine X_then ?_
    refine W_ret ?_
    refine X_ret [.tmp 4] [.bool (!Op.bytesLess x1.1.toList p1.toList)] rfl (ResAll.cons (ResAt.tmp kr) ResAll.nil) ?_
    refine ⟨_, rfl, ?_⟩
    refine WO_seg 1 [(21, .bool (!(!Op.bytesLess x1.1.toList p1.toList)))] kr kr ?_
    refine WO_et rfl (W_cond (!(!Op.bytesLess x1.1.toList p1.toList)) kr ?_ ?_)
    ·intro hc
     rw [if_pos hc] at hr
     refine W_region ?_
     refine WO_seg 3 [(5, .int .i64 (IntKind.wrap .i64 ((IntKind.wrap .i64 (Int.fdiv (IntKind.wrap .u64 (IntKind.wrap .i64 (s1.1 + s1.2))) (2 ^ 1))) + 1)))] kr kr ?_
     refine WO_end rfl ?_
     refine X_block ?_
     obtain rfl := Option.some.inj hr
     have hL := hSu2 _ rfl
     have st := st.front1.front1
     exact X_env _ kr (X_round k1 (Nat.lt_succ_self _) ⟨(IntKind.wrap .i64 ((IntKind.wrap .i64 (Int.fdiv (IntKind.wrap .u64 (IntKind.wrap .i64 (s1.1 + s1.2))) (2 ^ 1))) + 1), s1.2), m5, hL, rfl, hm, st, r1⟩)
    ·intro hc
     rw [if_neg (not_true hc)] at hr
     refine W_region ?_
     refine WO_seg 2 [(6, .int .i64 (IntKind.wrap .i64 (Int.fdiv (IntKind.wrap .u64 (IntKind.wrap .i64 (s1.1 + s1.2))) (2 ^ 1))))] kr kr ?_
     refine WO_end rfl ?_
     refine X_block ?_
     obtain rfl := Option.some.inj hr
     have hL := hSu2 _ rfl
     have st := st.front1.front1
     exact X_env _ kr (X_round k1 (Nat.lt_succ_self _) ⟨(s1.1, IntKind.wrap .i64 (Int.fdiv (IntKind.wrap .u64 (IntKind.wrap .i64 (s1.1 + s1.2))) (2 ^ 1))), m5, hL, rfl, hm, st, r1⟩)
   ·intro hc
    rw [if_neg (not_true hc)] at hr
    refine W_exit ?_
    refine X_then_exit ?_
    obtain rfl := Option.some.inj hr
    have ho := hBu2 _ rfl
    have st := st.front1.front1
    refine X_then_exit ?_
    exact X_env _ kr (K0_u2 _ _ ⟨s1.1, m5, ho, rfl, hm, st, r1⟩)
def slices_Clone_api_File_api_File_O (p0 : List (ByteArray × ByteArray)) : Option (List (ByteArray × ByteArray)) := appM 32 p0
set_option maxHeartbeats 4000000 in
set_option maxRecDepth 100000 in
theorem slices_Clone_api_File_api_File_own {m : Mem} {own : List Piece} {w : World} {p0 : List (ByteArray × ByteArray)} {a1 : Option Addr} {c1 : Nat} {r : List (ByteArray × ByteArray)} (st : St m (own) w) (r1 : RepS (cPair cStr cStr) m a1 c1 p0) (hr : slices_Clone_api_File_api_File_O p0 = some r) : Calls Tryz.prog 49 #[.slice a1 (List.length p0) c1] w fun e w' => ∃ (a : Option Addr) (k : Nat) (T : List Value) (m' : Mem), e = .returned (.slice a (List.length r) k) ∧ m.le m' ∧ OAS a (List.length r) k 2 T ∧ St m' (opc a (acellsM (fun x : ByteArray × ByteArray => ([.string x.1, .string x.2] : List Value)) r T) 46 :: own) w' := by
 unfold slices_Clone_api_File_api_File_O at hr
 have hm := m.le_refl
 refine W_calls Tryz.func49 rfl Tryz.ntmps49 [(0, .slice a1 (List.length p0) c1)] kr rfl ?_
 refine W_sr (WO_seg 1 [] kr kr ?_)
 refine WO_et rfl (W_seq ?_)
 refine W_sr (WO_seg 1 [(3, .slice a1 (List.length p0) c1)] kr kr ?_)
 rcases bcases (Option.isNone a1) with hnil | hnil
 ·refine WO_one rfl (One_nileq (d := 4) (t := 27) (t2 := 27) (e := 46) (x := (.tmp 3)) (y := (.const (.slice none 0 0))) true kr rfl (ev (.slice a1 (List.length p0) c1)) kr rfl hnil ?_)
  refine WO_et rfl (W_cond true kr ?_ (fun h => Bool.noConfusion h))
  intro _
  refine W_sr (WO_seg 1 [(2, .slice none 0 0)] kr kr ?_)
  refine WO_et rfl (W_ret ?_)
  refine X_then_ret ?_
  have hp : p0 = [] := by
   cases a1 with
   | none => exact r1.none_nil.1
   | some p => cases hnil
  subst hp
  have hr' : r = [] := by simp [appM] at hr; first | exact hr | exact hr.symm
  subst hr'
  refine X_ret [.tmp 2] [.slice none 0 0] rfl (ResAll.cons (ResAt.tmp kr) ResAll.nil) ?_
  have st := st.nilroom 0 0
  exact ⟨none, 0, [], m, rfl, hm, ⟨Nat.le_refl _, Nat.zero_le _, rfl⟩, st⟩
 ·refine WO_one rfl (One_nileq (d := 4) (t := 27) (t2 := 27) (e := 46) (x := (.tmp 3)) (y := (.const (.slice none 0 0))) false kr rfl (ev (.slice a1 (List.length p0) c1)) kr rfl hnil ?_)
  refine WO_et rfl (W_cond false kr (fun h => Bool.noConfusion h) ?_)
  intro _
  refine W_skip ?_
  refine X_then ?_
  refine W_sr (WO_one rfl (One_buildSlice (d := 5) (t := 27) (e := 46) (len := 0) (parts := #[]) (cPair cStr cStr) (xs := ([] : List (ByteArray × ByteArray))) [] kr rfl (fun _ => buildEmpty_run (by simp) kr _) rfl rfl st rfl ?_))
  clear st
  intro b1 m1 w1 hle1 st r2
  have hm := Mem.le_trans hm hle1
  have r1 := r1.mono hle1
  refine WO_seg 1 [(6, .slice a1 (List.length p0) c1)] kr kr ?_
  refine WO_one rfl (One_appM (d := 7) (t := 27) (u := 27) (e := 46) (by_ := 32) (x := (.tmp 5)) (y := (.tmp 6)) (c := (cPair cStr cStr)) (f := (fun x : ByteArray × ByteArray => ([.string x.1, .string x.2] : List Value))) (a := (some ⟨b1, 0, none⟩)) (fun _ _ _ h => by obtain ⟨_, _, rfl, rfl, rfl⟩ := h; rfl) (fun _ => rfl) kr rfl (ev (.slice (some ⟨b1, 0, none⟩) 0 0)) (ev (.slice a1 (List.length p0) c1)) st kr (.inl kr) r1.src hr ?_)
  clear st
  intro a2 c2 T2 w2 hs st
  refine WO_seg 1 [(2, .slice a2 (List.length r) c2)] kr kr ?_
  refine WO_et rfl (W_ret ?_)
  refine X_ret [.tmp 2] [.slice a2 (List.length r) c2] rfl (ResAll.cons (ResAt.tmp kr) ResAll.nil) ?_
  exact ⟨a2, c2, T2, m1, rfl, hm, hs, st⟩
set_option maxHeartbeats 4000000 in
set_option maxRecDepth 100000 in
theorem slices_Insert_api_File_api_File_own {m : Mem} {own : List Piece} {w : World} {l : List (ByteArray × ByteArray)} {x : ByteArray × ByteArray} {i : Nat} {a a2 : Option Addr} {cap c2 nn : Nat} {T : List Value} (st : St m (opc a (acellsM (fun x : ByteArray × ByteArray => ([.string x.1, .string x.2] : List Value)) l T) 46 :: own) w) (hs : OAS a nn cap 2 T) (hn : List.length l = nn) (hv : RepS (cPair cStr cStr) m a2 c2 [x]) (hi : i ≤ List.length l)
  (hb : (List.length l + 1) * 32 ≤ 140737488355328) (hmx : List.length l + 1 ≤ maxLen) : Calls Tryz.prog 50 #[.slice a nn cap, .int .i64 (i : Int), .slice a2 1 c2] w fun e w' => ∃ (ra1 : Option Addr) (rc1 : Nat) (m' : Mem), e = .returned (.slice ra1 (List.length (List.take i l ++ x :: List.drop i l)) rc1) ∧ m.le m' ∧ St m' (.room ra1 (List.length (List.take i l ++ x :: List.drop i l)) rc1 46 2 :: own) w' ∧ RepS (cPair cStr cStr) m' ra1 rc1 (List.take i l ++ x :: List.drop i l) := by
 subst hn
 have hm := m.le_refl
 have hcap := hs.1
 have hlen : List.length (List.take i l ++ x :: List.drop i l) = List.length l + 1 := by simp; omega
 have hmxI : (maxLen : Int) = 9223372036854775807 := rfl
 have hw1 : IntKind.wrap .i64 ((List.length l : Int) + 1) = (List.length l : Int) + 1 := by simp [IntKind.wrap, IntKind.signed, IntKind.bits]; simp only [maxLen] at hmx; omega
 have hw2 : IntKind.wrap .i64 ((i : Int) + 1) = (i : Int) + 1 := by simp [IntKind.wrap, IntKind.signed, IntKind.bits]; simp only [maxLen] at hmx; omega
 have hX : ∀ w' : World, Inv m w' → (Builtin.firstCells 2 1 (.slice a2 1 c2)).run Tryz.prog w' = .ok ((fun x : ByteArray × ByteArray => ([.string x.1, .string x.2] : List Value)) x).toArray w' := by
  intro w' hi'
  obtain ⟨cs, h1, h2⟩ := hv.src (P := Tryz.prog)
  have h3 := flat_of_rep (f := (fun x : ByteArray × ByteArray => ([.string x.1, .string x.2] : List Value))) (fun _ _ _ h => by obtain ⟨_, _, rfl, rfl, rfl⟩ := h; rfl) (h1 w' hi').2.2.1 h2
  have h4 : cs = (fun x : ByteArray × ByteArray => ([.string x.1, .string x.2] : List Value)) x := by rw [h3]; simp
  have h5 := (h1 w' hi').2.1
  rw [h4] at h5
  exact h5
 have hone : ∀ y : ByteArray × ByteArray, ∀ v ∈ (fun x : ByteArray × ByteArray => ([.string x.1, .string x.2] : List Value)) y, v.oneCell' = true := fun y => (cPair cStr cStr).one m y _ ((fun _ x => ⟨_, _, rfl, rfl, rfl⟩) m y)
 have honeL : ∀ k : List (ByteArray × ByteArray), ∀ v ∈ k.flatMap (fun x : ByteArray × ByteArray => ([.string x.1, .string x.2] : List Value)), v.oneCell' = true := fun k v hv => by
  obtain ⟨y, _, hy⟩ := List.mem_flatMap.1 hv; exact hone y v hy
 refine W_calls Tryz.func50 rfl Tryz.ntmps50 [(0, .slice a (List.length l) cap), (1, .int .i64 (i : Int)), (2, .slice a2 1 c2)] kr rfl ?_
 refine W_sr (WO_seg 1 [] kr kr ?_)
 refine WO_et rfl (W_sr ?_)
 refine WO_seg 2 [(10, .slice a (List.length l) cap), (11, .int .i64 (i : Int))] kr kr ?_
 refine WO_one rfl (One_sliceO (d := 12) (t := 27) (e := 46) (k := 2) (x := (.tmp 10)) (lo := some (.tmp 11)) (hi := none) (li := (i : Int)) (hix := (List.length l : Int)) _ kr rfl (ev (.slice a (List.length l) cap)) kr (.inr ⟨_, _, rfl, (ev (.int .i64 (i : Int)))⟩) (.inl ⟨rfl, rfl⟩) (by omega) (by omega) (by omega) rfl ?_)
 refine WO_et rfl (W_sr ?_)
 refine WO_seg 3 [(7, .int .i64 1)] kr kr ?_
 refine WO_et rfl (W_seq ?_)
 refine W_sr (WO_seg 2 [(16, .bool false)] kr kr ?_)
 refine WO_et rfl (W_cond false kr (fun h => Bool.noConfusion h) ?_)
 intro _
 refine W_skip ?_
 refine X_then ?_
 refine W_sr (WO_seg 3 [(8, .int .i64 (List.length l : Int))] kr kr ?_)
 refine WO_et rfl (W_seq ?_)
 refine W_sr (WO_seg 3 [(22, .bool ((i : Int) == (List.length l : Int)))] kr kr ?_)
 refine WO_et rfl (W_cond ((i : Int) == (List.length l : Int)) kr ?_ ?_)
 ·intro hc
  have hc : i = List.length l := by have := eq_of_beq hc; omega
  obtain ⟨m1, hle1, st, r1⟩ := St.freezeM (c := (cPair cStr cStr)) (f := (fun x : ByteArray × ByteArray => ([.string x.1, .string x.2] : List Value))) st hs rfl (fun _ => rfl) (fun _ x => ⟨_, _, rfl, rfl, rfl⟩)
  have hm := Mem.le_trans hm hle1
  have hv := hv.mono hle1
  refine W_sr (WO_seg 2 [(23, .slice a (List.length l) cap), (24, .slice a2 1 c2)] kr kr ?_)
  refine WO_one rfl (One_append (d := 25) (t := 27) (u := 27) (e := 46) (by_ := 32) (x := (.tmp 23)) (y := (.tmp 24)) (r := List.take i l ++ x :: List.drop i l) (cPair cStr cStr) kr rfl (ev (.slice a (List.length l) cap)) (ev (.slice a2 1 c2)) st kr (.inl kr) r1 hv.src (by unfold appendS; rw [if_pos ⟨by simpa using hb, by simpa using hmx⟩, hc]; simp) ?_)
  clear st
  intro a3 c3 m2 w2 hle2 st r3
  have hm := Mem.le_trans hm hle2
  refine WO_seg 1 [(6, .slice a3 (List.length (List.take i l ++ x :: List.drop i l)) c3)] kr kr ?_
  refine WO_et rfl (W_ret ?_)
  refine X_then_ret ?_
  refine X_ret [.tmp 6] [.slice a3 (List.length (List.take i l ++ x :: List.drop i l)) c3] rfl (ResAll.cons (ResAt.tmp kr) ResAll.nil) ?_
  exact ⟨a3, c3, m2, rfl, hm, st, r3⟩
 intro hc
 have hc : i < List.length l := by
  have : ¬ i = List.length l := fun e => by rw [e] at hc; simp at hc
  omega
 have ha := hs.some rfl hc
 generalize ab a = b at ha
 subst ha
 have hcapT : List.length l * 2 + T.length = cap * 2 := hs.2.2.2
 have st : St m (.blk b (.cells (acellsM (fun x : ByteArray × ByteArray => ([.string x.1, .string x.2] : List Value)) l T) 46 (0, 0)) :: own) w := st
 obtain ⟨A, hA⟩ : ∃ A, A = (l.take i).flatMap (fun x : ByteArray × ByteArray => ([.string x.1, .string x.2] : List Value)) := ⟨_, rfl⟩
 obtain ⟨B, hB⟩ : ∃ B, B = (l.drop i).flatMap (fun x : ByteArray × ByteArray => ([.string x.1, .string x.2] : List Value)) := ⟨_, rfl⟩
 have hAl : A.length = i * 2 := by rw [hA, flat_len (k := 2) (fun _ => rfl), List.length_take, Nat.min_eq_left hi]
 have hBl : B.length = (List.length l - i) * 2 := by rw [hB, flat_len (k := 2) (fun _ => rfl), List.length_drop]
 have hC : acellsM (fun x : ByteArray × ByteArray => ([.string x.1, .string x.2] : List Value)) l T = (A ++ (B ++ T)).toArray := by
  unfold acellsM; rw [hA, hB, ← List.append_assoc, ← List.flatMap_append, List.take_append_drop]
 rw [hC] at st
 have hoA : ∀ v ∈ A, v.oneCell' = true := by rw [hA]; exact honeL _
 have hoB : ∀ v ∈ B, v.oneCell' = true := by rw [hB]; exact honeL _
 have hxl : ((fun x : ByteArray × ByteArray => ([.string x.1, .string x.2] : List Value)) x).length = 2 := rfl
 have hfin : ∀ T' : List Value, (A ++ ((fun x : ByteArray × ByteArray => ([.string x.1, .string x.2] : List Value)) x ++ (B ++ T'))).toArray = acellsM (fun x : ByteArray × ByteArray => ([.string x.1, .string x.2] : List Value)) (List.take i l ++ x :: List.drop i l) T' := fun T' => by
  unfold acellsM; rw [List.flatMap_append, List.flatMap_cons, ← hA, ← hB]; simp only [List.append_assoc]
 refine W_skip ?_
 refine X_then ?_
 refine W_seq ?_
 refine W_sr (WO_seg 6 [(31, .bool (decide (IntKind.wrap .i64 ((List.length l : Int) + 1) > (cap : Int))))] kr kr ?_)
 refine WO_et rfl (W_cond (decide (IntKind.wrap .i64 ((List.length l : Int) + 1) > (cap : Int))) kr ?_ ?_)
 ·intro hg
  rw [hw1] at hg
  have hg : cap < List.length l + 1 := by have := of_decide_eq_true hg; omega
  have hz : IntKind.wrap .i64 (IntKind.wrap .i64 ((List.length l : Int) + 1) - (i : Int)) = ((List.length l + 1 - i : Nat) : Int) := by rw [hw1]; simp [IntKind.wrap, IntKind.signed, IntKind.bits]; simp only [maxLen] at hmx; omega
  refine W_sr (WO_seg 2 [(32, .slice (some ⟨b, 0, none⟩) (List.length l) cap), (33, .int .i64 (i : Int))] kr kr ?_)
  refine WO_one rfl (One_sliceO (d := 34) (t := 27) (e := 46) (k := 2) (x := (.tmp 32)) (lo := none) (hi := some (.tmp 33)) (li := 0) (hix := (i : Int)) (.slice (some ⟨b, 0, none⟩) i cap) kr rfl (ev (.slice (some ⟨b, 0, none⟩) (List.length l) cap)) kr (.inl ⟨rfl, rfl⟩) (.inr ⟨_, _, rfl, (ev (.int .i64 (i : Int)))⟩) (by omega) (by omega) (by omega) (by rw [slA_some (by simp; omega)]; simp) ?_)
  refine WO_seg 5 [(39, .int .i64 (IntKind.wrap .i64 (IntKind.wrap .i64 ((List.length l : Int) + 1) - (i : Int))))] kr kr ?_
  have hfA : ∀ w' : World, Step w w' → w'.heap = w.heap → (Builtin.firstCells 2 i (.slice (some ⟨b, 0, none⟩) i cap)).run Tryz.prog w' = .ok A.toArray w' := fun w' _ hh =>
   first_own (C := (A ++ (B ++ T)).toArray) (e := 46) (by rw [hh]; exact st.head.1) (by simp only [List.drop_zero]; rw [← hAl]; exact List.take_left) hAl
  refine WO_one rfl (One_appendZ (d := 40) (t := 27) (u := 3) (e := 46) (by_ := 32) (k := 2) (kd' := .i64) (x := (.tmp 34)) (y := (.tmp 39)) (A := A) (z := (.agg #[.string (⟨#[]⟩ : ByteArray), .string (⟨#[]⟩ : ByteArray)])) (zn := IntKind.wrap .i64 (IntKind.wrap .i64 ((List.length l : Int) + 1) - (i : Int))) kr rfl (ev (.slice (some ⟨b, 0, none⟩) i cap)) (ev (.int .i64 (IntKind.wrap .i64 (IntKind.wrap .i64 ((List.length l : Int) + 1) - (i : Int))))) kr kr kr st hfA (by rw [hz]; omega) (by rw [hz]; omega) (by rw [hz, Int.toNat_natCast, show i + (List.length l + 1 - i) = List.length l + 1 by omega]; exact hb) (by rw [hz]; omega) ?_)
  clear st hfA
  intro b2 cap2 Z w2 hc1 hc2 hZl st
  rw [hz, Int.toNat_natCast, show i + (List.length l + 1 - i) = List.length l + 1 by omega] at hc1 hZl ⊢
  have hZ : 2 ≤ Z.length := by omega
  refine WO_seg 1 [(9, .slice (some ⟨b2, 0, none⟩) (List.length l + 1) cap2)] kr kr ?_
  refine WO_et rfl (W_sr ?_)
  refine WO_seg 2 [(41, .slice (some ⟨b2, 0, none⟩) (List.length l + 1) cap2), (42, .int .i64 (i : Int))] kr kr ?_
  refine WO_one rfl (One_sliceO (d := 43) (t := 27) (e := 46) (k := 2) (x := (.tmp 41)) (lo := some (.tmp 42)) (hi := none) (li := (i : Int)) (hix := ((List.length l + 1 : Nat) : Int)) (.slice (some ⟨b2, A.length, none⟩) (List.length l + 1 - i) (cap2 - i)) kr rfl (ev (.slice (some ⟨b2, 0, none⟩) (List.length l + 1) cap2)) kr (.inr ⟨_, _, rfl, (ev (.int .i64 (i : Int)))⟩) (.inl ⟨rfl, rfl⟩) (by omega) (by omega) (by omega) (by rw [slA_some (by simp; omega), hAl]; simp) ?_)
  refine WO_seg 1 [(44, .slice a2 1 c2)] kr kr ?_
  have hmin : Nat.min 1 (List.length l + 1 - i) = 1 := Nat.min_eq_left (by omega)
  refine WO_one rfl (One_copyO (d := 45) (t := 27) (u := 27) (e := 46) (k := 2) (x := (.tmp 43)) (y := (.tmp 44)) ((fun x : ByteArray × ByteArray => ([.string x.1, .string x.2] : List Value)) x) (A ++ ((fun x : ByteArray × ByteArray => ([.string x.1, .string x.2] : List Value)) x ++ Z.drop 2)) kr rfl (ev (.slice (some ⟨b2, A.length, none⟩) (List.length l + 1 - i) (cap2 - i))) (ev (.slice a2 1 c2)) kr st (by rw [hmin]; exact hX _ st.inv) (by simp only [hxl, List.size_toArray, List.length_append]; omega) (hone x) (by simp only [hxl]; rw [List.take_left, List.drop_length_add_append, List.append_assoc]) ?_)
  clear st
  intro w3 st
  refine WO_et rfl (W_seq ?_)
  refine W_draw [(9, fun _ => True)] kr st ?_
  clear st
  intro w4 _ st
  refine ⟨⟨.inr trivial, trivial⟩, ?_⟩
  refine WA_pure 0 46 (.slice (some ⟨b2, 0, none⟩) (List.length l + 1) cap2) kr rfl kr (.head _) (QP_then (QP_then QP_body)) ?_
  refine WA_pure 1 47 (.int .i64 (i : Int)) kr rfl kr (.head _) (QP_then (QP_then QP_body)) ?_
  refine WA_pure 2 48 (.int .i64 1) kr rfl kr (.head _) (QP_then (QP_then QP_body)) ?_
  refine WA_pure 3 49 (.int .i64 (IntKind.wrap .i64 ((i : Int) + 1))) kr rfl kr (.head _) (QP_then (QP_then QP_body)) ?_
  refine WA_sliceO (t := 27) (e := 46) (k := 2) (x := (.tmp 46)) (lo := some (.tmp 49)) (hi := none) (li := IntKind.wrap .i64 ((i : Int) + 1)) (hix := ((List.length l + 1 : Nat) : Int)) 4 50 (.slice (some ⟨b2, A.length + 2, none⟩) (List.length l - i) (cap2 - (i + 1))) kr rfl kr (.head _) (QP_then (QP_then QP_body)) (ev (.slice (some ⟨b2, 0, none⟩) (List.length l + 1) cap2)) kr (.inr ⟨_, _, rfl, (ev (.int .i64 (IntKind.wrap .i64 ((i : Int) + 1))))⟩) (.inl ⟨rfl, rfl⟩) (by rw [hw2]; omega) (by rw [hw2]; omega) (by omega) (by rw [hw2, show ((i : Int) + 1).toNat = i + 1 by omega, slA_some (by omega), Int.toNat_natCast, show 0 + (i + 1) * 2 = A.length + 2 by omega, show List.length l + 1 - (i + 1) = List.length l - i by omega]) ?_
  refine WA_pure 5 51 (.slice (some ⟨b, 0, none⟩) (List.length l) cap) kr rfl kr (.head _) (QP_then (QP_then QP_body)) ?_
  refine WA_pure 6 52 (.int .i64 (i : Int)) kr rfl kr (.head _) (QP_then (QP_then QP_body)) ?_
  refine WA_sliceO (t := 27) (e := 46) (k := 2) (x := (.tmp 51)) (lo := some (.tmp 52)) (hi := none) (li := (i : Int)) (hix := (List.length l : Int)) 7 53 (.slice (some ⟨b, A.length, none⟩) (List.length l - i) (cap - i)) kr rfl kr (.head _) (QP_then (QP_then QP_body)) (ev (.slice (some ⟨b, 0, none⟩) (List.length l) cap)) kr (.inr ⟨_, _, rfl, (ev (.int .i64 (i : Int)))⟩) (.inl ⟨rfl, rfl⟩) (by omega) (by omega) (by omega) (by rw [slA_some (by simp; omega), hAl]; simp) ?_
  refine WA_one 8 kr (One_copyO (d := 54) (t := 27) (u := 27) (e := 46) (k := 2) (x := (.tmp 50)) (y := (.tmp 53)) B (A ++ ((fun x : ByteArray × ByteArray => ([.string x.1, .string x.2] : List Value)) x ++ (B ++ (Z.drop 2).drop B.length))) kr rfl (ev (.slice (some ⟨b2, A.length + 2, none⟩) (List.length l - i) (cap2 - (i + 1)))) (ev (.slice (some ⟨b, A.length, none⟩) (List.length l - i) (cap - i))) kr st
   (by rw [show Nat.min (List.length l - i) (List.length l - i) = List.length l - i from Nat.min_self _]; exact first_own (C := (A ++ (B ++ T)).toArray) (e := 46) st.tail.head.1 (by simp only; rw [List.drop_left, ← hBl]; exact List.take_left) hBl)
   (by simp only [List.size_toArray, List.length_append, List.length_drop, hxl, hBl]; omega) hoB (by
    have e1 : A ++ ((fun x : ByteArray × ByteArray => ([.string x.1, .string x.2] : List Value)) x ++ Z.drop 2) = (A ++ (fun x : ByteArray × ByteArray => ([.string x.1, .string x.2] : List Value)) x) ++ Z.drop 2 := by rw [List.append_assoc]
    have e2 : A.length + 2 = (A ++ (fun x : ByteArray × ByteArray => ([.string x.1, .string x.2] : List Value)) x).length := by simp only [List.length_append, hxl]
    simp only
    rw [e1, e2, List.take_left, List.drop_length_add_append, List.append_assoc, List.append_assoc]) ?_)
  clear st
  intro w5 st
  refine ⟨⟨.inr trivial, trivial⟩, ?_⟩
  refine WA_done kr ?_
  refine X_then ?_
  refine W_sr (WO_seg 2 [(6, .slice (some ⟨b2, 0, none⟩) (List.length l + 1) cap2)] kr kr ?_)
  refine WO_et rfl (W_ret ?_)
  refine X_then_ret ?_
  refine X_ret [.tmp 6] [.slice (some ⟨b2, 0, none⟩) (List.length l + 1) cap2] rfl (ResAll.cons (ResAt.tmp kr) ResAll.nil) ?_
  rw [hfin] at st
  have st : St m (opc (some ⟨b2, 0, none⟩) (acellsM (fun x : ByteArray × ByteArray => ([.string x.1, .string x.2] : List Value)) (List.take i l ++ x :: List.drop i l) ((Z.drop 2).drop B.length)) 46 :: own) w5 := st.front1.tail
  obtain ⟨m1, hle1, st, r1⟩ := St.freezeM (c := (cPair cStr cStr)) (f := (fun x : ByteArray × ByteArray => ([.string x.1, .string x.2] : List Value))) (nn := List.length l + 1) (cc := cap2) st ⟨by omega, hc2, rfl, (show (List.length l + 1) * 2 + List.length (List.drop B.length (List.drop 2 Z)) = cap2 * 2 by simp only [List.length_drop, hBl]; omega)⟩ hlen (fun _ => rfl) (fun _ x => ⟨_, _, rfl, rfl, rfl⟩)
  rw [hlen] at st ⊢
  exact ⟨_, cap2, m1, rfl, Mem.le_trans hm hle1, st, r1⟩
 intro hg
 rw [hw1] at hg
 have hg : List.length l + 1 ≤ cap := by have := of_decide_eq_false hg; omega
 have hT : 2 ≤ T.length := by omega
 refine W_skip ?_
 refine X_then ?_
 refine W_sr (WO_seg 4 [(56, .slice (some ⟨b, 0, none⟩) (List.length l) cap), (59, .int .i64 (IntKind.wrap .i64 ((List.length l : Int) + 1)))] kr kr ?_)
 refine WO_one rfl (One_sliceO (d := 60) (t := 27) (e := 46) (k := 2) (x := (.tmp 56)) (lo := none) (hi := some (.tmp 59)) (li := 0) (hix := IntKind.wrap .i64 ((List.length l : Int) + 1)) (.slice (some ⟨b, 0, none⟩) (List.length l + 1) cap) kr rfl (ev (.slice (some ⟨b, 0, none⟩) (List.length l) cap)) kr (.inl ⟨rfl, rfl⟩) (.inr ⟨_, _, rfl, (ev (.int .i64 (IntKind.wrap .i64 ((List.length l : Int) + 1))))⟩) (by omega) (by rw [hw1]; omega) (by rw [hw1]; omega) (by rw [hw1, slA_some (by simp; omega), show ((List.length l : Int) + 1).toNat = List.length l + 1 by omega]; simp) ?_)
 refine WO_seg 1 [(0, .slice (some ⟨b, 0, none⟩) (List.length l + 1) cap)] kr kr ?_
 refine WO_et rfl (W_seq ?_)
 refine W_sr (WO_seg 5 [(61, .slice a2 1 c2), (62, .slice (some ⟨b, 0, none⟩) (List.length l + 1) cap), (65, .int .i64 (IntKind.wrap .i64 ((i : Int) + 1)))] kr kr ?_)
 refine WO_one rfl (One_sliceO (d := 66) (t := 27) (e := 46) (k := 2) (x := (.tmp 62)) (lo := some (.tmp 65)) (hi := none) (li := IntKind.wrap .i64 ((i : Int) + 1)) (hix := ((List.length l + 1 : Nat) : Int)) (.slice (some ⟨b, A.length + 2, none⟩) (List.length l - i) (cap - (i + 1))) kr rfl (ev (.slice (some ⟨b, 0, none⟩) (List.length l + 1) cap)) kr (.inr ⟨_, _, rfl, (ev (.int .i64 (IntKind.wrap .i64 ((i : Int) + 1))))⟩) (.inl ⟨rfl, rfl⟩) (by rw [hw2]; omega) (by rw [hw2]; omega) (by omega) (by rw [hw2, show ((i : Int) + 1).toNat = i + 1 by omega, slA_some (by omega), Int.toNat_natCast, show 0 + (i + 1) * 2 = A.length + 2 by omega, show List.length l + 1 - (i + 1) = List.length l - i by omega]) ?_)
 have hov : (Extern.SlicesOverlaps.overlaps #[27, 27] #[4] #[.slice a2 1 c2, .slice (some ⟨b, A.length + 2, none⟩) (List.length l - i) (cap - (i + 1))]).run Tryz.prog w = .ok (.bool false) w := by
  cases a2 with
  | none => exact absurd hv.none_nil.1 (by simp)
  | some p =>
   obtain ⟨cs, hcs, hrow⟩ := hv.2.2.2 0 x rfl
   have hcs' : cs = (fun x : ByteArray × ByteArray => ([.string x.1, .string x.2] : List Value)) x := (show ∀ (m : Mem) (x : ByteArray × ByteArray) cs, (cPair cStr cStr).rep m x cs → cs = (fun x : ByteArray × ByteArray => ([.string x.1, .string x.2] : List Value)) x from (fun _ _ _ h => by obtain ⟨_, _, rfl, rfl, rfl⟩ := h; rfl)) m x cs hcs
   have hcell := hrow 0 (((fun x : ByteArray × ByteArray => ([.string x.1, .string x.2] : List Value)) x)[0]) (by rw [hcs']; rfl)
   obtain ⟨c0, e0, f0, h1, h2⟩ := st.inv.1 _ _ _ hcell
   have hne : p.block ≠ b := fun e => by
    have := st.head.2.1 (p.off + 0 * (cPair cStr cStr).sz + 0)
    rw [← e, hcell] at this; cases this
   have hpos : c0.size ≠ 0 := by have := (Array.getElem?_eq_some_iff.1 h2).1; omega
   exact run_overlaps_own 27 4 46 kr 2 (fun _ => run_sizeOf_of kr) p ⟨b, A.length + 2, none⟩ 1 c2 _ _ hne e0 46 c0.size _ (by unfold World.shape?; rw [h1]) (by unfold World.shape?; rw [st.head.1]) hpos (by unfold World.frozen?; rw [st.head.1]; simp) (by unfold World.frozen?; rw [st.head.1]; simp)
 refine WO_one rfl (One_extern (d := 67) (f := 68) (xs := #[(.tmp 61), (.tmp 66)]) (ts := #[27, 27]) [.slice a2 1 c2, .slice (some ⟨b, A.length + 2, none⟩) (List.length l - i) (cap - (i + 1))] (.bool false) kr rfl kr Tryz.func68 kr (show Extern.find _ = some (Extern.SlicesOverlaps.overlaps #[27, 27] #[4]) from rfl) hov ?_)
 refine WO_seg 1 [(68, .bool true)] kr kr ?_
 refine WO_et rfl (W_cond true kr ?_ (fun h => Bool.noConfusion h))
 intro _
 refine W_seq ?_
 refine W_draw [(9, fun _ => True)] kr st ?_
 clear st hov
 intro w4 _ st
 refine ⟨⟨.inr trivial, trivial⟩, ?_⟩
 refine WA_pure 0 69 (.slice (some ⟨b, 0, none⟩) (List.length l + 1) cap) kr rfl kr (.head _) (QP_then (QP_then QP_body)) ?_
 refine WA_pure 1 70 (.int .i64 (i : Int)) kr rfl kr (.head _) (QP_then (QP_then QP_body)) ?_
 refine WA_pure 2 71 (.int .i64 1) kr rfl kr (.head _) (QP_then (QP_then QP_body)) ?_
 refine WA_pure 3 72 (.int .i64 (IntKind.wrap .i64 ((i : Int) + 1))) kr rfl kr (.head _) (QP_then (QP_then QP_body)) ?_
 refine WA_sliceO (t := 27) (e := 46) (k := 2) (x := (.tmp 69)) (lo := some (.tmp 72)) (hi := none) (li := IntKind.wrap .i64 ((i : Int) + 1)) (hix := ((List.length l + 1 : Nat) : Int)) 4 73 (.slice (some ⟨b, A.length + 2, none⟩) (List.length l - i) (cap - (i + 1))) kr rfl kr (.head _) (QP_then (QP_then QP_body)) (ev (.slice (some ⟨b, 0, none⟩) (List.length l + 1) cap)) kr (.inr ⟨_, _, rfl, (ev (.int .i64 (IntKind.wrap .i64 ((i : Int) + 1))))⟩) (.inl ⟨rfl, rfl⟩) (by rw [hw2]; omega) (by rw [hw2]; omega) (by omega) (by rw [hw2, show ((i : Int) + 1).toNat = i + 1 by omega, slA_some (by omega), Int.toNat_natCast, show 0 + (i + 1) * 2 = A.length + 2 by omega, show List.length l + 1 - (i + 1) = List.length l - i by omega]) ?_
 refine WA_pure 5 74 (.slice (some ⟨b, 0, none⟩) (List.length l + 1) cap) kr rfl kr (.head _) (QP_then (QP_then QP_body)) ?_
 refine WA_pure 6 75 (.int .i64 (i : Int)) kr rfl kr (.head _) (QP_then (QP_then QP_body)) ?_
 refine WA_sliceO (t := 27) (e := 46) (k := 2) (x := (.tmp 74)) (lo := some (.tmp 75)) (hi := none) (li := (i : Int)) (hix := ((List.length l + 1 : Nat) : Int)) 7 76 (.slice (some ⟨b, A.length, none⟩) (List.length l + 1 - i) (cap - i)) kr rfl kr (.head _) (QP_then (QP_then QP_body)) (ev (.slice (some ⟨b, 0, none⟩) (List.length l + 1) cap)) kr (.inr ⟨_, _, rfl, (ev (.int .i64 (i : Int)))⟩) (.inl ⟨rfl, rfl⟩) (by omega) (by omega) (by omega) (by rw [slA_some (by simp; omega), hAl]; simp) ?_
 have hmin : Nat.min (List.length l + 1 - i) (List.length l - i) = List.length l - i := Nat.min_eq_right (by omega)
 refine WA_one 8 kr (One_copyO (d := 77) (t := 27) (u := 27) (e := 46) (k := 2) (x := (.tmp 73)) (y := (.tmp 76)) B (A ++ ((B ++ T).take 2 ++ (B ++ T.drop 2))) kr rfl (ev (.slice (some ⟨b, A.length + 2, none⟩) (List.length l - i) (cap - (i + 1)))) (ev (.slice (some ⟨b, A.length, none⟩) (List.length l + 1 - i) (cap - i))) kr st
  (by rw [hmin]; exact first_own (C := (A ++ (B ++ T)).toArray) (e := 46) st.head.1 (by simp only; rw [List.drop_left, ← hBl]; exact List.take_left) hBl)
  (by simp only [List.size_toArray, List.length_append]; omega) hoB (by
   simp only
   rw [List.take_length_add_append, Nat.add_assoc, List.drop_length_add_append, Nat.add_comm 2 B.length, List.drop_length_add_append]
   simp only [List.append_assoc]) ?_)
 clear st
 intro w5 st
 refine ⟨⟨.inr trivial, trivial⟩, ?_⟩
 refine WA_done kr ?_
 refine X_then ?_
 refine W_sr (WO_seg 2 [(78, .slice (some ⟨b, 0, none⟩) (List.length l + 1) cap), (79, .int .i64 (i : Int))] kr kr ?_)
 refine WO_one rfl (One_sliceO (d := 80) (t := 27) (e := 46) (k := 2) (x := (.tmp 78)) (lo := some (.tmp 79)) (hi := none) (li := (i : Int)) (hix := ((List.length l + 1 : Nat) : Int)) (.slice (some ⟨b, A.length, none⟩) (List.length l + 1 - i) (cap - i)) kr rfl (ev (.slice (some ⟨b, 0, none⟩) (List.length l + 1) cap)) kr (.inr ⟨_, _, rfl, (ev (.int .i64 (i : Int)))⟩) (.inl ⟨rfl, rfl⟩) (by omega) (by omega) (by omega) (by rw [slA_some (by simp; omega), hAl]; simp) ?_)
 refine WO_seg 1 [(81, .slice a2 1 c2)] kr kr ?_
 have hmin2 : Nat.min 1 (List.length l + 1 - i) = 1 := Nat.min_eq_left (by omega)
 refine WO_one rfl (One_copyO (d := 82) (t := 27) (u := 27) (e := 46) (k := 2) (x := (.tmp 80)) (y := (.tmp 81)) ((fun x : ByteArray × ByteArray => ([.string x.1, .string x.2] : List Value)) x) (A ++ ((fun x : ByteArray × ByteArray => ([.string x.1, .string x.2] : List Value)) x ++ (B ++ T.drop 2))) kr rfl (ev (.slice (some ⟨b, A.length, none⟩) (List.length l + 1 - i) (cap - i))) (ev (.slice a2 1 c2)) kr st (by rw [hmin2]; exact hX _ st.inv) (by simp only [hxl, List.size_toArray, List.length_append, List.length_take, List.length_drop]; omega) (hone x) (by
   have e1 : ((B ++ T).take 2).length = 2 := by rw [List.length_take, List.length_append]; omega
   simp only [hxl]
   rw [List.take_left, List.drop_length_add_append]
   conv => lhs; rw [← e1]
   rw [e1]
   rw [show List.drop 2 ((B ++ T).take 2 ++ (B ++ T.drop 2)) = B ++ T.drop 2 by
    conv => lhs; arg 1; rw [← e1]
    exact List.drop_left]
   rw [List.append_assoc]) ?_)
 clear st
 intro w6 st
 refine WO_et rfl (W_sr ?_)
 refine WO_seg 2 [(6, .slice (some ⟨b, 0, none⟩) (List.length l + 1) cap)] kr kr ?_
 refine WO_et rfl (W_ret ?_)
 refine X_then_ret ?_
 refine X_ret [.tmp 6] [.slice (some ⟨b, 0, none⟩) (List.length l + 1) cap] rfl (ResAll.cons (ResAt.tmp kr) ResAll.nil) ?_
 rw [hfin] at st
 have st : St m (opc (some ⟨b, 0, none⟩) (acellsM (fun x : ByteArray × ByteArray => ([.string x.1, .string x.2] : List Value)) (List.take i l ++ x :: List.drop i l) (T.drop 2)) 46 :: own) w6 := st
 obtain ⟨m1, hle1, st, r1⟩ := St.freezeM (c := (cPair cStr cStr)) (f := (fun x : ByteArray × ByteArray => ([.string x.1, .string x.2] : List Value))) (nn := List.length l + 1) (cc := cap) st ⟨hg, hs.2.1, rfl, (show (List.length l + 1) * 2 + List.length (List.drop 2 T) = cap * 2 by simp only [List.length_drop]; omega)⟩ hlen (fun _ => rfl) (fun _ x => ⟨_, _, rfl, rfl, rfl⟩)
 rw [hlen] at st ⊢
 exact ⟨_, cap, m1, rfl, Mem.le_trans hm hle1, st, r1⟩
theorem slices_Insert_api_File_api_File_ok2 {m : Mem} {own : List Piece} {w : World} {l r : List (ByteArray × ByteArray)} {x : ByteArray × ByteArray} {ix : Int} {a a2 : Option Addr} {cap c2 nn : Nat} {T : List Value} (st : St m (opc a (acellsM (fun x : ByteArray × ByteArray => ([.string x.1, .string x.2] : List Value)) l T) 46 :: own) w) (hs : OAS a nn cap 2 T) (hn : List.length l = nn) (hv : RepS (cPair cStr cStr) m a2 c2 [x]) (hr : insertS 32 l ix x = some r) :
  Calls Tryz.prog 50 #[.slice a nn cap, .int .i64 ix, .slice a2 1 c2] w fun e w' => ∃ (ra1 : Option Addr) (rc1 : Nat) (m' : Mem), e = .returned (.slice ra1 (List.length r) rc1) ∧ m.le m' ∧ St m' (.room ra1 (List.length r) rc1 46 2 :: own) w' ∧ RepS (cPair cStr cStr) m' ra1 rc1 r := by
 obtain ⟨i, rfl, h2, h3, h4, rfl⟩ := insertS_some hr
 exact slices_Insert_api_File_api_File_own st hs hn hv h2 h3 h4
def revision_Put (N : Nat) (p0 : (List (ByteArray × ByteArray))) (p1 : ByteArray) (p2 : ByteArray) : Option (((List (ByteArray × ByteArray))) × Int) :=
 (revision_Check N p0).bind fun y1 => if (y1 != 0) = true then (some (([] : List (ByteArray × ByteArray)), y1)) else ((lexer_Path N p1).bind fun y2 => if (!y2) = true then (some (([] : List (ByteArray × ByteArray)), 6)) else ((revision_at N p0 p1).bind fun y3 => (if (decide ((ByteArray.size p2 : Int) > 16384)) = true then (some true) else (if (!y3.2) = true then (some ((List.length p0 : Int) == 64)) else (some false)) : Option (Bool)).bind fun o1 => if o1 = true then (some (([] : List (ByteArray × ByteArray)), 2)) else ((slices_Clone_api_File_api_File_O p0).bind fun y4 => (if y3.2 = true then ((idx y4 y3.1).bind fun x1 => some (List.set y4 (Int.toNat y3.1) (x1.1, p2))) else ((insertS 32 y4 y3.1 (p1, p2)).bind fun y5 => some y5) : Option ((List (ByteArray × ByteArray)))).bind fun o2 => some (o2, 0))))
set_option maxHeartbeats 4000000 in
set_option maxRecDepth 100000 in
theorem revision_Put_ok {N : Nat} {m : Mem} {own : List Piece} {w : World} {p0 : (List (ByteArray × ByteArray))} {p1 : ByteArray} {p2 : ByteArray} {a1 : Option Addr} {c1 : Nat} {r : ((List (ByteArray × ByteArray))) × Int} (st : St m (own) w) (r1 : RepS (cPair cStr cStr) m a1 c1 p0) (hr : revision_Put N p0 p1 p2 = some r) : Calls Tryz.prog 28 #[.agg #[.slice a1 (List.length p0) c1], .string p1, .string p2] w fun e w' => ∃ (ra1 : Option Addr) (rc1 : Nat) (m' : Mem), e = .returned (.tuple #[.agg #[.slice ra1 (List.length r.1) rc1], .int .i64 r.2]) ∧ m.le m' ∧ St m' (.room ra1 (List.length r.1) rc1 46 2 :: own) w' ∧ RepS (cPair cStr cStr) m' ra1 rc1 r.1 := by
 unfold revision_Put at hr
 have hm := m.le_refl
 refine W_calls Tryz.func28 rfl Tryz.ntmps28 [(0, .agg #[.slice a1 (List.length p0) c1]), (1, .string p1), (2, .string p2)] kr rfl ?_
 refine W_sr (WO_one rfl (One_box (d := 3) (e := 29) (x := (.tmp 0)) (.agg #[.slice a1 (List.length p0) c1]) kr rfl kr st ?_))
 clear st
 intro b1 m1 w1 hle1 st hb1
 have hm := Mem.le_trans hm hle1
 have r1 := r1.mono hle1
 refine WO_one rfl (One_alloc (d := 6) (e := 29) (.agg #[.slice none 0 0]) kr rfl kr st ?_)
 clear st
 intro b2 w2 st
 refine WO_seg 1 [] kr kr ?_
 refine WO_et rfl (W_seq ?_)
 refine W_sr (WO_one rfl (One_load_row (d := 12) (t := 29) (x := (.tmp 3)) (.agg #[.slice a1 (List.length p0) c1]) kr rfl (ev (.pointer (some ⟨b1, 0, none⟩))) st hb1 kr ?_))
 replace ⟨y1, hx1, hr⟩ := bindS hr
 refine WO_one rfl (One_fn 13 16 #[.agg #[.slice a1 (List.length p0) c1]] kr rfl ?_)
 refine (revision_Check_ok st r1 hx1).mono ?_
 clear st
 rintro _ w3 ⟨m2, rfl, hle2, st⟩
 refine ⟨_, rfl, ?_⟩
 have hm := Mem.le_trans hm hle2
 have hb1 := hb1.mono hle2
 have r1 := r1.mono hle2
 refine WO_seg 1 [(8, .int .i64 y1)] kr kr ?_
 refine WO_et rfl (W_sr ?_)
 refine WO_seg 2 [(15, .bool (y1 != 0))] kr kr ?_
 refine WO_et rfl (W_cond (y1 != 0) kr ?_ ?_)
 ·intro hc
  rw [if_pos hc] at hr
  refine W_sr (WO_seg 2 [(16, .agg #[.slice none (List.length ([] : List (ByteArray × ByteArray))) 0]), (17, .int .i64 y1)] kr kr ?_)
  refine WO_one rfl (One_store (t := 29) (x := (.tmp 6)) (y := (.tmp 16)) (v := .agg #[.slice none (List.length ([] : List (ByteArray × ByteArray))) 0]) (c' := #[.slice none (List.length ([] : List (ByteArray × ByteArray))) 0]) kr (ev (.pointer (some ⟨b2, 0, none⟩))) (ev (.agg #[.slice none (List.length ([] : List (ByteArray × ByteArray))) 0])) st kr kr ?_)
  clear st
  intro w4 st
  refine WO_seg 1 [(7, .int .i64 y1)] kr kr ?_
  refine WO_et rfl (W_ret ?_)
  refine X_then_ret ?_
  obtain rfl := Option.some.inj hr
  refine X_ret [.cell 6 29, .tmp 7] [.agg #[.slice none (List.length ([] : List (ByteArray × ByteArray))) 0], .int .i64 y1] rfl (ResAll.cons (ResAt.blk (v := .agg #[.slice none (List.length ([] : List (ByteArray × ByteArray))) 0]) (o := 0) kr st.head kr) (ResAll.cons (ResAt.tmp kr) ResAll.nil)) ?_
  have st := st.nilroom 46 2
  have st := st.front1
  have st := st.tail
  exact ⟨none, 0, m2, rfl, hm, st, (RepS.nil _ _)⟩
 ·intro hc
  rw [if_neg (not_true hc)] at hr
  refine W_skip ?_
  refine X_then ?_
  refine W_seq ?_
  refine W_sr (WO_seg 1 [(18, .string p1)] kr kr ?_)
  replace ⟨y2, hx2, hr⟩ := bindS hr
  refine WO_one rfl (One_fn 19 38 #[.string p1] kr rfl ?_)
  refine (lexer_Path_ok st hx2).mono ?_
  clear st
  rintro _ w5 ⟨m3, rfl, hle3, st⟩
  refine ⟨_, rfl, ?_⟩
  have hm := Mem.le_trans hm hle3
  have hb1 := hb1.mono hle3
  have r1 := r1.mono hle3
  refine WO_seg 1 [(20, .bool (!y2))] kr kr ?_
  refine WO_et rfl (W_cond (!y2) kr ?_ ?_)
  ·intro hc
   rw [if_pos hc] at hr
   refine W_sr (WO_seg 1 [(21, .agg #[.slice none (List.length ([] : List (ByteArray × ByteArray))) 0])] kr kr ?_)
   refine WO_one rfl (One_store (t := 29) (x := (.tmp 6)) (y := (.tmp 21)) (v := .agg #[.slice none (List.length ([] : List (ByteArray × ByteArray))) 0]) (c' := #[.slice none (List.length ([] : List (ByteArray × ByteArray))) 0]) kr (ev (.pointer (some ⟨b2, 0, none⟩))) (ev (.agg #[.slice none (List.length ([] : List (ByteArray × ByteArray))) 0])) st kr kr ?_)
   clear st
   intro w6 st
   refine WO_seg 1 [(7, .int .i64 6)] kr kr ?_
   refine WO_et rfl (W_ret ?_)
   refine X_then_ret ?_
   obtain rfl := Option.some.inj hr
   refine X_ret [.cell 6 29, .tmp 7] [.agg #[.slice none (List.length ([] : List (ByteArray × ByteArray))) 0], .int .i64 6] rfl (ResAll.cons (ResAt.blk (v := .agg #[.slice none (List.length ([] : List (ByteArray × ByteArray))) 0]) (o := 0) kr st.head kr) (ResAll.cons (ResAt.tmp kr) ResAll.nil)) ?_
   have st := st.nilroom 46 2
   have st := st.front1
   have st := st.tail
   exact ⟨none, 0, m3, rfl, hm, st, (RepS.nil _ _)⟩
  ·intro hc
   rw [if_neg (not_true hc)] at hr
   refine W_skip ?_
   refine X_then ?_
   refine W_sr (WO_one rfl (One_load_row (d := 23) (t := 29) (x := (.tmp 3)) (.agg #[.slice a1 (List.length p0) c1]) kr rfl (ev (.pointer (some ⟨b1, 0, none⟩))) st hb1 kr ?_))
   refine WO_seg 1 [(24, .string p1)] kr kr ?_
   replace ⟨y3, hx3, hr⟩ := bindS hr
   refine WO_one rfl (One_fn 25 48 #[.agg #[.slice a1 (List.length p0) c1], .string p1] kr rfl ?_)
   refine (revision_at_ok st r1 hx3).mono ?_
   clear st
   rintro _ w7 ⟨m4, rfl, hle4, st⟩
   refine ⟨_, rfl, ?_⟩
   have hm := Mem.le_trans hm hle4
   have hb1 := hb1.mono hle4
   have r1 := r1.mono hle4
   refine WO_seg 5 [(9, .int .i64 y3.1), (10, .bool y3.2)] kr kr ?_
   refine WO_et rfl (W_seq ?_)
   refine W_sr ?_
   replace ⟨o1, hr, hrK⟩ := bindS hr
   refine WO_cut (j := 13) (fun L' w' => ∃ (m5 : Mem), L' = [(1, .string p1), (2, .string p2), (3, .pointer (some ⟨b1, 0, none⟩)), (6, .pointer (some ⟨b2, 0, none⟩)), (9, .int .i64 y3.1), (10, .bool y3.2), (40, .bool o1)] ∧ m.le m5 ∧ St m5 (.blk b2 (.cells #[.slice none (List.length ([] : List (ByteArray × ByteArray))) 0] 29 (0, 0)) :: own) w' ∧ MRow m5 b1 0 [.slice a1 (List.length p0) c1] ∧ RepS (cPair cStr cStr) m5 a1 c1 p0) ?_ ?_
   ·clear hr st
    have hr := hrK
    clear hrK
    rintro _ w8 ⟨m5, rfl, hm, st, hb1, r1⟩
    refine WO_et rfl (W_cond o1 kr ?_ ?_)
    ·intro hc
     rw [if_pos hc] at hr
     refine W_sr (WO_seg 1 [(41, .agg #[.slice none (List.length ([] : List (ByteArray × ByteArray))) 0])] kr kr ?_)
     refine WO_one rfl (One_store (t := 29) (x := (.tmp 6)) (y := (.tmp 41)) (v := .agg #[.slice none (List.length ([] : List (ByteArray × ByteArray))) 0]) (c' := #[.slice none (List.length ([] : List (ByteArray × ByteArray))) 0]) kr (ev (.pointer (some ⟨b2, 0, none⟩))) (ev (.agg #[.slice none (List.length ([] : List (ByteArray × ByteArray))) 0])) st kr kr ?_)
     clear st
     intro w9 st
     refine WO_seg 1 [(7, .int .i64 2)] kr kr ?_
     refine WO_et rfl (W_ret ?_)
     refine X_then_ret ?_
     obtain rfl := Option.some.inj hr
     refine X_ret [.cell 6 29, .tmp 7] [.agg #[.slice none (List.length ([] : List (ByteArray × ByteArray))) 0], .int .i64 2] rfl (ResAll.cons (ResAt.blk (v := .agg #[.slice none (List.length ([] : List (ByteArray × ByteArray))) 0]) (o := 0) kr st.head kr) (ResAll.cons (ResAt.tmp kr) ResAll.nil)) ?_
     have st := st.nilroom 46 2
     have st := st.front1
     have st := st.tail
     exact ⟨none, 0, m5, rfl, hm, st, (RepS.nil _ _)⟩
    ·intro hc
     rw [if_neg (not_true hc)] at hr
     refine W_skip ?_
     refine X_then ?_
     refine W_sr (WO_seg 1 [(42, .pointer (some ⟨b1, 0, none⟩))] kr kr ?_)
     refine WO_one rfl (One_load_row (d := 43) (t := 27) (x := (.tmp 42)) (.slice a1 (List.length p0) c1) kr rfl (ev (.pointer (some ⟨b1, 0, none⟩))) st hb1 kr ?_)
     replace ⟨y4, hx4, hr⟩ := bindS hr
     refine WO_one rfl (One_fn 44 49 #[.slice a1 (List.length p0) c1] kr rfl ?_)
     refine (slices_Clone_api_File_api_File_own st r1 hx4).mono ?_
     clear st
     rintro _ w10 ⟨a2, c2, T1, m6, rfl, hle5, hs1, st⟩
     refine ⟨_, rfl, ?_⟩
     have hm := Mem.le_trans hm hle5
     have hb1 := hb1.mono hle5
     have r1 := r1.mono hle5
     refine WO_seg 1 [(11, .slice a2 (List.length y4) c2)] kr kr ?_
     refine WO_et rfl (W_seq ?_)
     refine W_sr (WO_seg 1 [(45, .bool y3.2)] kr kr ?_)
     refine WO_et rfl ?_
     replace ⟨o2, hr, hrKu1⟩ := bindS hr
     refine W_cut .normal (fun L' w' => ∃ (a3 : Option Addr) (c3 : Nat) (m8 : Mem), L' = [(6, .pointer (some ⟨b2, 0, none⟩)), (11, .slice a3 (List.length o2) c3)] ∧ m.le m8 ∧ St m8 (.blk b2 (.cells #[.slice none (List.length ([] : List (ByteArray × ByteArray))) 0] 29 (0, 0)) :: .room a3 (List.length o2) c3 46 2 :: own) w' ∧ RepS (cPair cStr cStr) m8 a3 c3 o2) ?_ ?_
     ·clear hr st
      have hr := hrKu1
      clear hrKu1
      rintro _ w11 ⟨a3, c3, m8, rfl, hm, st, r3⟩
      refine X_then ?_
      refine W_sr (WO_seg 2 [(59, .agg #[.slice a3 (List.length o2) c3])] kr kr ?_)
      refine WO_one rfl (One_store (t := 29) (x := (.tmp 6)) (y := (.tmp 59)) (v := .agg #[.slice a3 (List.length o2) c3]) (c' := #[.slice a3 (List.length o2) c3]) kr (ev (.pointer (some ⟨b2, 0, none⟩))) (ev (.agg #[.slice a3 (List.length o2) c3])) st kr kr ?_)
      clear st
      intro w15 st
      refine WO_seg 1 [(7, .int .i64 0)] kr kr ?_
      refine WO_et rfl (W_ret ?_)
      obtain rfl := Option.some.inj hr
      refine X_ret [.cell 6 29, .tmp 7] [.agg #[.slice a3 (List.length o2) c3], .int .i64 0] rfl (ResAll.cons (ResAt.blk (v := .agg #[.slice a3 (List.length o2) c3]) (o := 0) kr st.head kr) (ResAll.cons (ResAt.tmp kr) ResAll.nil)) ?_
      have st := st.tail
      exact ⟨a3, c3, m8, rfl, hm, st, r3⟩
     ·intro Ku1
      clear hrKu1
      refine W_cond y3.2 kr ?_ ?_
      ·intro hc
       rw [if_pos hc] at hr
       refine W_region ?_
       refine WO_seg 3 [(46, .slice a2 (List.length y4) c2), (47, .int .i64 y3.1), (48, .string p2)] kr kr ?_
       replace ⟨x1, hx5, hr⟩ := bindS hr
       refine WO_one rfl (One_arrIndexM (d := 49) (t := 27) (e := 46) (x := (.tmp 46)) (y := (.tmp 47)) (k := 2) kr rfl (ev (.slice a2 (List.length y4) c2)) (ev (.int .i64 y3.1)) kr hs1 rfl hx5 ?_)
       refine WO_seg 1 [(50, .pointer (some ⟨ab a2, Int.toNat y3.1 * 2 + 1, none⟩))] kr kr ?_
       refine WO_one rfl (One_arrStoreM (t := 9) (x := (.tmp 50)) (y := (.tmp 48)) (o := 1) (f := (fun x : ByteArray × ByteArray => ([.string x.1, .string x.2] : List Value))) (z := x1) (u := (x1.1, p2)) (v := .string p2) (fun _ => rfl) (Int.toNat y3.1 * 2 + 1) rfl kr (ev (.pointer (some ⟨ab a2, Int.toNat y3.1 * 2 + 1, none⟩))) (ev (.string p2)) st hs1 rfl hx5 kr rfl ?_)
       clear st
       intro w12 st
       have hn1 : List.length (List.set y4 (Int.toNat y3.1) (x1.1, p2)) = (List.length y4) := set_len rfl _ _
       refine WO_end rfl ?_
       obtain rfl := Option.some.inj hr
       obtain ⟨m9, hle7, st, r4⟩ := St.freezeM (c := (cPair cStr cStr)) (f := (fun x : ByteArray × ByteArray => ([.string x.1, .string x.2] : List Value))) st hs1 hn1 (fun _ => rfl) (fun _ x => ⟨_, _, rfl, rfl, rfl⟩)
       have hm := Mem.le_trans hm hle7
       refine X_env [(6, .pointer (some ⟨b2, 0, none⟩)), (11, .slice a2 (List.length (List.set y4 (Int.toNat y3.1) (x1.1, p2))) c2)] (by (try simp only [hn1]); kernel_rfl) ?_
       have st := st.front1
       exact X_env _ kr (Ku1 _ _ ⟨a2, c2, m9, rfl, hm, st, r4⟩)
      ·intro hc
       rw [if_neg (not_true hc)] at hr
       refine W_region ?_
       refine WO_seg 5 [(51, .slice a2 (List.length y4) c2), (52, .int .i64 y3.1), (55, .agg #[.string p1, .string p2])] kr kr ?_
       refine WO_one rfl (One_buildSlice (d := 56) (t := 27) (e := 46) (len := 1) (parts := #[(0, (.tmp 55))]) (cPair cStr cStr) (xs := [(p1, p2)]) [.string p1, .string p2] kr rfl (fun _ => buildCells_run kr _) rfl rfl st ⟨[.string p1, .string p2], _, rfl, ⟨_, _, rfl, rfl, rfl⟩, rfl⟩ ?_)
       clear st
       intro b3 m10 w13 hle8 st r5
       have hm := Mem.le_trans hm hle8
       replace ⟨y5, hx6, hr⟩ := bindS hr
       have st := st.front1
       refine WO_one rfl (One_fn 57 50 #[.slice a2 (List.length y4) c2, .int .i64 y3.1, .slice (some ⟨b3, 0, none⟩) (List.length ([(p1, p2)])) 1] kr rfl ?_)
       refine (slices_Insert_api_File_api_File_ok2 st hs1 rfl r5 hx6).mono ?_
       clear st
       rintro _ w14 ⟨a4, c4, m11, rfl, hle9, st, r6⟩
       refine ⟨_, rfl, ?_⟩
       have hm := Mem.le_trans hm hle9
       have r5 := r5.mono hle9
       refine WO_seg 1 [(11, .slice a4 (List.length y5) c4)] kr kr ?_
       refine WO_end rfl ?_
       have st := st.front1
       have st := st.tail
       obtain rfl := Option.some.inj hr
       have st := st.front1
       exact X_env _ kr (Ku1 _ _ ⟨a4, c4, m11, rfl, hm, st, r6⟩)
   ·intro K
    clear hrK
    refine WO_seg 4 [(31, .bool (decide ((ByteArray.size p2 : Int) > 16384)))] kr kr ?_
    rcases bcases (decide ((ByteArray.size p2 : Int) > 16384)) with hc | hc
    ·rw [if_pos hc] at hr
     refine WO_fact (t := 31) (b := true) (decide ((ByteArray.size p2 : Int) > 16384)) kr hc ?_
     refine WO_seg 9 [(40, .bool true)] kr kr ?_
     obtain rfl := Option.some.inj hr
     exact WO_env _ kr (K _ _ ⟨m4, rfl, hm, st, hb1, r1⟩)
    ·rw [if_neg (not_true hc)] at hr
     refine WO_fact (t := 31) (b := false) (decide ((ByteArray.size p2 : Int) > 16384)) kr hc ?_
     refine WO_seg 3 [(34, .bool (!y3.2))] kr kr ?_
     rcases bcases (!y3.2) with hc | hc
     ·rw [if_pos hc] at hr
      refine WO_fact (t := 34) (b := true) (!y3.2) kr hc ?_
      refine WO_seg 1 [(35, .pointer (some ⟨b1, 0, none⟩))] kr kr ?_
      refine WO_one rfl (One_load_row (d := 36) (t := 27) (x := (.tmp 35)) (.slice a1 (List.length p0) c1) kr rfl (ev (.pointer (some ⟨b1, 0, none⟩))) st hb1 kr ?_)
      refine WO_seg 4 [(40, .bool ((List.length p0 : Int) == 64))] kr kr ?_
      obtain rfl := Option.some.inj hr
      exact WO_env _ kr (K _ _ ⟨m4, rfl, hm, st, hb1, r1⟩)
     ·rw [if_neg (not_true hc)] at hr
      refine WO_fact (t := 34) (b := false) (!y3.2) kr hc ?_
      refine WO_seg 6 [(40, .bool false)] kr kr ?_
      obtain rfl := Option.some.inj hr
      exact WO_env _ kr (K _ _ ⟨m4, rfl, hm, st, hb1, r1⟩)
def revision_Find (N : Nat) (p0 : (List (ByteArray × ByteArray))) (p1 : ByteArray) : Option (ByteArray × Bool) :=
 (revision_Check N p0).bind fun y1 => if (y1 != 0) = true then (some ((⟨#[]⟩ : ByteArray), false)) else ((revision_at N p0 p1).bind fun y2 => if (!y2.2) = true then (some ((⟨#[]⟩ : ByteArray), false)) else ((idx p0 y2.1).bind fun x1 => some (x1.2, true)))
set_option maxHeartbeats 4000000 in
set_option maxRecDepth 100000 in
theorem revision_Find_ok {N : Nat} {m : Mem} {own : List Piece} {w : World} {p0 : (List (ByteArray × ByteArray))} {p1 : ByteArray} {a1 : Option Addr} {c1 : Nat} {r : ByteArray × Bool} (st : St m (own) w) (r1 : RepS (cPair cStr cStr) m a1 c1 p0) (hr : revision_Find N p0 p1 = some r) : Calls Tryz.prog 30 #[.agg #[.slice a1 (List.length p0) c1], .string p1] w fun e w' => ∃ (m' : Mem), e = .returned (.tuple #[.string r.1, .bool r.2]) ∧ m.le m' ∧ St m' (own) w' := by
 unfold revision_Find at hr
 have hm := m.le_refl
 refine W_calls Tryz.func30 rfl Tryz.ntmps30 [(0, .agg #[.slice a1 (List.length p0) c1]), (1, .string p1)] kr rfl ?_
 refine W_sr (WO_one rfl (One_box (d := 2) (e := 29) (x := (.tmp 0)) (.agg #[.slice a1 (List.length p0) c1]) kr rfl kr st ?_))
 clear st
 intro b1 m1 w1 hle1 st hb1
 have hm := Mem.le_trans hm hle1
 have r1 := r1.mono hle1
 refine WO_seg 2 [] kr kr ?_
 refine WO_et rfl (W_seq ?_)
 refine W_sr (WO_one rfl (One_load_row (d := 8) (t := 29) (x := (.tmp 2)) (.agg #[.slice a1 (List.length p0) c1]) kr rfl (ev (.pointer (some ⟨b1, 0, none⟩))) st hb1 kr ?_))
 replace ⟨y1, hx1, hr⟩ := bindS hr
 refine WO_one rfl (One_fn 9 16 #[.agg #[.slice a1 (List.length p0) c1]] kr rfl ?_)
 refine (revision_Check_ok st r1 hx1).mono ?_
 clear st
 rintro _ w2 ⟨m2, rfl, hle2, st⟩
 refine ⟨_, rfl, ?_⟩
 have hm := Mem.le_trans hm hle2
 have hb1 := hb1.mono hle2
 have r1 := r1.mono hle2
 refine WO_seg 1 [(10, .bool (y1 != 0))] kr kr ?_
 refine WO_et rfl (W_cond (y1 != 0) kr ?_ ?_)
 ·intro hc
  rw [if_pos hc] at hr
  refine W_sr (WO_seg 2 [(4, .string (⟨#[]⟩ : ByteArray)), (5, .bool false)] kr kr ?_)
  refine WO_et rfl (W_ret ?_)
  refine X_then_ret ?_
  obtain rfl := Option.some.inj hr
  refine X_ret [.tmp 4, .tmp 5] [.string (⟨#[]⟩ : ByteArray), .bool false] rfl (ResAll.cons (ResAt.tmp kr) (ResAll.cons (ResAt.tmp kr) ResAll.nil)) ?_
  exact ⟨m2, rfl, hm, st⟩
 ·intro hc
  rw [if_neg (not_true hc)] at hr
  refine W_skip ?_
  refine X_then ?_
  refine W_sr (WO_one rfl (One_load_row (d := 12) (t := 29) (x := (.tmp 2)) (.agg #[.slice a1 (List.length p0) c1]) kr rfl (ev (.pointer (some ⟨b1, 0, none⟩))) st hb1 kr ?_))
  refine WO_seg 1 [(13, .string p1)] kr kr ?_
  replace ⟨y2, hx2, hr⟩ := bindS hr
  refine WO_one rfl (One_fn 14 48 #[.agg #[.slice a1 (List.length p0) c1], .string p1] kr rfl ?_)
  refine (revision_at_ok st r1 hx2).mono ?_
  clear st
  rintro _ w3 ⟨m3, rfl, hle3, st⟩
  refine ⟨_, rfl, ?_⟩
  have hm := Mem.le_trans hm hle3
  have hb1 := hb1.mono hle3
  have r1 := r1.mono hle3
  refine WO_seg 5 [(6, .int .i64 y2.1), (7, .bool y2.2)] kr kr ?_
  refine WO_et rfl (W_seq ?_)
  refine W_sr (WO_seg 2 [(18, .bool (!y2.2))] kr kr ?_)
  refine WO_et rfl (W_cond (!y2.2) kr ?_ ?_)
  ·intro hc
   rw [if_pos hc] at hr
   refine W_sr (WO_seg 2 [(4, .string (⟨#[]⟩ : ByteArray)), (5, .bool false)] kr kr ?_)
   refine WO_et rfl (W_ret ?_)
   refine X_then_ret ?_
   obtain rfl := Option.some.inj hr
   refine X_ret [.tmp 4, .tmp 5] [.string (⟨#[]⟩ : ByteArray), .bool false] rfl (ResAll.cons (ResAt.tmp kr) (ResAll.cons (ResAt.tmp kr) ResAll.nil)) ?_
   exact ⟨m3, rfl, hm, st⟩
  ·intro hc
   rw [if_neg (not_true hc)] at hr
   refine W_skip ?_
   refine X_then ?_
   refine W_sr (WO_seg 1 [(19, .pointer (some ⟨b1, 0, none⟩))] kr kr ?_)
   refine WO_one rfl (One_load_row (d := 20) (t := 27) (x := (.tmp 19)) (.slice a1 (List.length p0) c1) kr rfl (ev (.pointer (some ⟨b1, 0, none⟩))) st hb1 kr ?_)
   refine WO_seg 1 [(21, .int .i64 y2.1)] kr kr ?_
   replace ⟨x1, hx3, hr⟩ := bindS hr
   refine WO_one rfl (One_index (d := 22) (t := 27) (e := 46) (x := (.tmp 20)) (y := (.tmp 21)) (cPair cStr cStr) kr rfl (ev (.slice a1 (List.length p0) c1)) (ev (.int .i64 y2.1)) kr r1 hx3 ?_)
   rintro b2 f1 cs1 ⟨_, _, rfl, rfl, rfl⟩ hq1
   refine WO_seg 1 [(23, .pointer (some ⟨b2, f1 + 1, none⟩))] kr kr ?_
   refine WO_one rfl (One_load_row (d := 24) (t := 9) (x := (.tmp 23)) (.string x1.2) kr rfl (ev (.pointer (some ⟨b2, f1 + 1, none⟩))) st (hq1.drop 1) kr ?_)
   refine WO_seg 2 [(4, .string x1.2), (5, .bool true)] kr kr ?_
   refine WO_et rfl (W_ret ?_)
   obtain rfl := Option.some.inj hr
   refine X_ret [.tmp 4, .tmp 5] [.string x1.2, .bool true] rfl (ResAll.cons (ResAt.tmp kr) (ResAll.cons (ResAt.tmp kr) ResAll.nil)) ?_
   exact ⟨m3, rfl, hm, st⟩
end Go.Proofs.YtfodebccikifcaaGreatDoor
